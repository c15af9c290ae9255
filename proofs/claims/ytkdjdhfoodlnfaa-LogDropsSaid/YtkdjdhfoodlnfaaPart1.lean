/- Texts of this claim, put together. -/
import Derived.Shelf.RegionOpenPlain
import Derived.WalkKit
import Derived.KernelRfl
import Derived.Lib.Walk
import Derived.Lib.SliceRun
import Derived.Lib.JoinLaws
import Derived.Lib.AppendZeros
import Derived.Lib.AppendZerosOnto
import Derived.Lib.Overlaps
import Derived.Laws.Externs
import Derived.Laws.IdiomCopy
import Derived.Laws.NewBlocks
import Derived.Test.YtkdjdhfoodlnfaaProg
import Derived.Test.YtkdjdhfoodlnfaaEval3
import Derived.Test.YtkdjdhfoodlnfaaRows
import Derived.ProofKit
import Derived.OpenShut
import Derived.ShutString
import Derived.ChangeOld
import Derived.Below
import Derived.SizedLaws
import Derived.Test.YtkdjdhfoodlnfaaEval4
/-! slices.Insert of entries, walked: its roads. -/
section
set_option linter.unusedVariables false
set_option linter.unusedSimpArgs false
namespace Go.Proofs.Ytkdjdhfoodlnfaa
open Go Go.Shelf Go.RowKit Go.Lib Go.Proofs

section
variable {P : Program}
theorem wp_copy_runK (w : World) {o : Oper} {a : Act} {K : Act → World → Prop} {Q : Exit → Act → World → Prop} (d s : Operand) (t t' : TypeId)
    (ho : o.op = .call { callee := .builtin .copy, args := #[d, s], argTypes := #[t, t'] }) (v u : Value) (hd : a.eval d = v) (hs : a.eval s = u) {v' : Value} {w' : World}
    (hr : (Builtin.copy_ #[t, t'] o.type #[v, u]).run P w = .ok v' w') (h : K (a.put o.dst v') w') : o.wp P a w K Q := by
  unfold Oper.wp execOp
  simp only [ho, resolve, invoke, builtin, Sem.run_bind, Sem.run_pure, Result.andThen_ok, List.map_toArray, List.map_cons, List.map_nil, hd, hs, hr]
  exact h
theorem wpList_copy_runK (w : World) {ops : Array Oper} {rest : List Oper} {o : Oper} {a : Act} {Q : Exit → Act → World → Prop} (hgd : o.guard = none) (d s : Operand) (t t' : TypeId)
    (ho : o.op = .call { callee := .builtin .copy, args := #[d, s], argTypes := #[t, t'] }) (v u : Value) (hd : a.eval d = v) (hs : a.eval s = u) {v' : Value} {w' : World}
    (hr : (Builtin.copy_ #[t, t'] o.type #[v, u]).run P w = .ok v' w') (h : wpList P ops Q rest (a.put o.dst v') w') : wpList P ops Q (o :: rest) a w :=
  wpList_plain hgd fun _ hK => wp_copy_runK w d s t t' ho v u hd hs hr (hK _ _ h)
theorem step_copy_runK {ops : Array Oper} {o : Oper} {a : Act} {w : World} {K : Act → World → Prop} {Q : Exit → Act → World → Prop} {E : Prop}
    (hg : o.guard = none) (d x : Operand) (dT sT : TypeId) (hop : o.op = Op.call { callee := Callee.builtin Builtin.copy, args := #[d, x], argTypes := #[dT, sT] })
    (v u : Value) (hd : a.eval d = v) (hx : a.eval x = u) {v' : Value} {w' : World} (hr : (Builtin.copy_ #[dT, sT] o.type #[v, u]).run P w = .ok v' w') (hK : K (a.put o.dst v') w') :
    if Region.wanted o (yielded ops a.tmps) = true then Oper.wp P o a w K Q else E := by
  have hw : Region.wanted o (yielded ops a.tmps) = true := by simp [Region.wanted, hg]
  rw [if_pos hw]
  unfold Oper.wp
  simp [execOp, hop, resolve, invoke, builtin, hd, hx, hr, Result.andThen]
  exact hK
theorem run_copy_cellsK (k : Nat) (w : World) (dT sT ty elem : TypeId) (b o dLen dCap : Nat) (a : Addr) (sLen sCap : Nat) (cs : List Value)
    (hu : P.underlying dT = some (.slice elem)) (hs : (P.info? elem).map (·.size) = some k) (hn : cs.length = Nat.min sLen dLen * k)
    (hsrc : ∀ j v, cs[j]? = some v → w.cell? (a.add j) = some v) (hc : ∀ j, j < cs.length → (w.cell? ⟨b, o + j, none⟩).isSome = true) (hf : ∀ j, j < cs.length → w.frozen? ⟨b, o + j, none⟩ = false) (h1 : ∀ v ∈ cs, v.oneCell' = true) :
    (Builtin.copy_ #[dT, sT] ty #[.slice (some ⟨b, o, none⟩) dLen dCap, .slice (some a) sLen sCap]).run P w = .ok (goInt (Nat.min sLen dLen)) (w.setCells b o cs) := by
  have hl := run_loadCells_list (P := P) w a cs hsrc
  have hst := run_storeCells_cells (P := P) b o cs 0 w (by simpa using hc) (by simpa using hf) h1
  cases hq : P.info? elem with
  | none => simp [hq] at hs
  | some i =>
    have hi : i.size = k := by simpa [hq] using hs
    simp [Builtin.copy_, run_underlying hu, Builtin.lenOf, Builtin.firstCells, sizeOf, typeInfo, hq, hi, ← hn, hl, hst]
end
theorem run_overlaps_no {P : Program} (w : World) (tS tR e : TypeId) (ht : P.underlying tS = some (.slice e)) (size : Nat) (hz : ∀ w, (Go.sizeOf e).run P w = .ok size w)
    (a b : Addr) (la ca lb cb : Nat) (tA : TypeId) (kA : Nat) (hsa : w.shape? a.block = some (tA, kA + 1)) (arr : Array Value) (tB : TypeId) (hb : w.heap[b.block]? = some (.cells arr tB (0, 0)))
    (hpos : a.block ≠ b.block ∨ a.off + la * size ≤ b.off) :
    (Extern.SlicesOverlaps.overlaps #[tS, tS] #[tR] #[.slice (some a) la ca, .slice (some b) lb cb]).run P w = .ok (.bool false) w := by
  have hsb : w.shape? b.block = some (tB, arr.size) := by simp [World.shape?, hb]
  have hfb : w.frozen? b = false := by simp [World.frozen?, hb]
  have hfe : w.frozen? { block := b.block, off := arr.size } = false := by simp [World.frozen?, hb]
  change Sem.run P (α := Value) (do
    let some t := (#[tS, tS] : Array TypeId)[0]? | stuck "slices.overlaps: no parameter types"
    let .slice elem ← underlying t | stuck "slices.overlaps: slice type expected"
    let size ← sizeOf elem
    match (some a : Option Addr), (some b : Option Addr) with
    | some a, some b =>
      if la = 0 ∨ lb = 0 ∨ size = 0 then pure (Value.bool false)
      else if a.block != b.block && (← frozen a) && (← frozen b) then unsupported .addressObserved
      else do
        if a.block != b.block then do
          noView a; noView b
          if ← mayBeOne a b then return Value.bool ((← choose (.extern "sameAddr.stringBytes" 2)) == 1)
        pure (Value.bool (a.block == b.block && a.off < b.off + lb * size && b.off < a.off + la * size))
    | _, _ => pure (Value.bool false)) w = _
  by_cases h0 : la = 0 ∨ lb = 0 ∨ size = 0
  · simp [run_underlying ht, hz, h0]
  · by_cases hne : a.block = b.block
    · have hnb : (a.block != b.block) = false := by simpa using hne
      have hnb' : (a.block == b.block) = true := by simpa using hne
      have h1 : a.off + la * size ≤ b.off := by
        rcases hpos with h | h
        · exact absurd hne h
        · exact h
      have h2 : ¬ (b.off < a.off + la * size) := by omega
      simp [run_underlying ht, hz, h0, hnb, hnb', frozen, Sem.run, h2]
    · have hnb : (a.block != b.block) = true := by simpa using hne
      have hnb' : (a.block == b.block) = false := by simpa using hne
      cases hfa : w.frozen? a <;> cases hfa2 : w.frozen? { block := a.block, off := kA + 1 } <;>
        simp [run_underlying ht, hz, h0, hnb, hnb', frozen, noView, viewAt, mayBeOne, stringish, shape, Sem.run, hsa, hsb, hfa, hfa2, hfb, hfe]
theorem drew_setCellsK (b : Nat) : ∀ (vs : List Value) (o : Nat) (w : World), (w.setCells b o vs).drew = w.drew.setCells b o vs
  | [], _, _ => rfl
  | v :: r, o, w => by rw [World.setCells, World.setCells, drew_setCellsK b r]; rfl
theorem isSome_setCellsK (b : Nat) (vs : List Value) (o : Nat) (w : World) (h : ∀ j, j < vs.length → (w.cell? ⟨b, o + j, none⟩).isSome = true) (k : Nat) (hk : (w.cell? ⟨b, k, none⟩).isSome = true) : ((w.setCells b o vs).cell? ⟨b, k, none⟩).isSome = true := by
  by_cases hin : o ≤ k ∧ k < o + vs.length
  · have := World.cell?_setCells_in b vs o w h (k - o) (by omega)
    rw [show o + (k - o) = k by omega] at this
    rw [this]; rfl
  · rw [World.cell?_setCells_out b vs o w ⟨b, k, none⟩ (fun _ _ => by show k < o ∨ o + vs.length ≤ k; omega)]
    exact hk
theorem min_self (a : Nat) : Nat.min a a = a := Nat.min_self a

set_option maxHeartbeats 4000000 in
set_option maxRecDepth 100000 in
theorem ins_shift (b off n c i vb voff m vc : Nat) (cs vs : List Value) (w : World) (hi : i < n) (hm : 0 < m) (hroom : n + m ≤ c) (hc63 : n + m ≤ 9223372036854775807) (hvb : vb ≠ b ∨ voff + m * 4 ≤ off)
    (hcl : cs.length = n * 4) (hvl : vs.length = m * 4)
    (hcs : ∀ j v, cs[j]? = some v → w.cell? ⟨b, off + j, none⟩ = some v) (hsp : ∀ j, j < (n + m) * 4 → (w.cell? ⟨b, off + j, none⟩).isSome = true) (hfz : ∀ j, j < (n + m) * 4 → w.frozen? ⟨b, off + j, none⟩ = false)
    (hvs : ∀ j v, vs[j]? = some v → w.cell? ⟨vb, voff + j, none⟩ = some v) (h1c : ∀ v ∈ cs, v.oneCell' = true) (h1v : ∀ v ∈ vs, v.oneCell' = true)
    (tA tB : TypeId) (kA : Nat) (hsa : w.shape? vb = some (tA, kA + 1)) (arr : Array Value) (hbB : w.heap[b]? = some (.cells arr tB (0, 0))) :
    Calls Try.prog 26 #[.slice (some ⟨b, off, none⟩) n c, .int .i64 i, .slice (some ⟨vb, voff, none⟩) m vc] w fun e w' =>
      e = .returned (.slice (some ⟨b, off, none⟩) (n + m) c) ∧ w' = (w.drew.setCells b (off + (i + m) * 4) (cs.drop (i * 4))).setCells b (off + i * 4) vs := by
  have mixed : Try.prog.follows .mixedOrders = true := by kernel_rfl
  have hz1 : ¬ ((m : Int) = 0) := by omega
  have hz2 : ¬ ((i : Int) = (n : Int)) := by omega
  have hsz : (Try.prog.info? 29).map (·.size) = some 4 := by kernel_rfl
  have hov : ∀ lb cb, (callFunc 38 #[.slice (some ⟨vb, voff, none⟩) m vc, .slice (some ⟨b, off + (i + m) * 4, none⟩) lb cb]).run Try.prog w = .ok (.value (.bool false)) w := fun lb cb => by
    rw [run_callFunc_extern Try.func38 (by kernel_rfl) (by kernel_rfl) (by kernel_rfl) (e := Extern.SlicesOverlaps.overlaps #[22, 22] #[4]) (by kernel_rfl),
      run_overlaps_no w 22 4 29 Try.underlying22 4 Try.sizeOf29 ⟨vb, voff, none⟩ ⟨b, off + (i + m) * 4, none⟩ m vc lb cb tA kA hsa arr tB hbB (hvb.imp id (fun h => by show voff + m * 4 ≤ off + (i + m) * 4; omega))]
    rfl
  have hdl : (cs.drop (i * 4)).length = (n - i) * 4 := by rw [List.length_drop, hcl]; omega
  have hw1 : IntKind.i64.wrap ((i : Int) + (m : Int)) = (i : Int) + (m : Int) := by rw [IntKind.wrap_i64]; omega
  have hb1 : (0 : Int) ≤ (i : Int) + (m : Int) := by omega
  have hin : i ≤ n := by omega
  have htn : ((i : Int) + (m : Int)).toNat = i + m := by omega
  have hb2 : ¬ (c = i + m) := by omega
  have hb3 : (i : Int) ≤ (n : Int) + (m : Int) := by omega
  have hb4 : ¬ (c = i) := by omega
  have hmin1 : Nat.min (n + m - i) (n + m - (i + m)) = n - i := by simp only [Nat.min_def]; split <;> omega
  have hmin2 : Nat.min m (n + m - i) = m := by simp only [Nat.min_def]; split <;> omega
  have hcp1 : ∀ ty dc sc, (Builtin.copy_ #[22, 22] ty #[.slice (some ⟨b, off + (i + m) * 4, none⟩) (n + m - (i + m)) dc, .slice (some ⟨b, off + i * 4, none⟩) (n + m - i) sc]).run Try.prog w.drew = .ok (goInt (Nat.min (n + m - i) (n + m - (i + m)))) (w.drew.setCells b (off + (i + m) * 4) (cs.drop (i * 4))) := fun ty dc sc =>
    run_copy_cellsK 4 w.drew _ _ ty 29 b (off + (i + m) * 4) (n + m - (i + m)) dc ⟨b, off + i * 4, none⟩ (n + m - i) sc (cs.drop (i * 4)) Try.underlying22 hsz (by rw [hdl, hmin1])
      (fun j v hj => by rw [Addr.add_lit, Nat.add_assoc]; exact hcs (i * 4 + j) v (by rwa [List.getElem?_drop] at hj))
      (fun j hj => by rw [Nat.add_assoc]; exact hsp _ (by omega)) (fun j hj => by rw [Nat.add_assoc]; exact hfz _ (by omega)) (fun v hv => h1c v (List.mem_of_mem_drop hv))
  obtain ⟨W1, hW1⟩ : ∃ W1, W1 = w.drew.setCells b (off + (i + m) * 4) (cs.drop (i * 4)) := ⟨_, rfl⟩
  have hsp1 : ∀ k, k < (n + m) * 4 → (W1.cell? ⟨b, off + k, none⟩).isSome = true := fun k hk => by
    rw [hW1]
    exact isSome_setCellsK b _ _ _ (fun j hj => by rw [Nat.add_assoc]; exact hsp _ (by omega)) _ (hsp k hk)
  have hcp2 : ∀ (W : World), (∀ x, W.cell? x = W1.cell? x) → (∀ x, W.frozen? x = W1.frozen? x) → ∀ ty dc, (Builtin.copy_ #[22, 22] ty #[.slice (some ⟨b, off + i * 4, none⟩) (n + m - i) dc, .slice (some ⟨vb, voff, none⟩) m vc]).run Try.prog W = .ok (goInt (Nat.min m (n + m - i))) (W.setCells b (off + i * 4) vs) := fun W hWc hWf ty dc =>
    run_copy_cellsK 4 W _ _ ty 29 b (off + i * 4) (n + m - i) dc ⟨vb, voff, none⟩ m vc vs Try.underlying22 hsz (by rw [hvl, hmin2])
      (fun j v hj => by
        rw [Addr.add_lit, hWc, hW1, World.cell?_setCells_out b _ _ _ _ (fun h _ => by
          have hjl := (List.getElem?_eq_some_iff.1 hj).1
          rcases hvb with h2 | h2
          · exact absurd h h2
          · left; show voff + j < off + (i + m) * 4; omega)]
        exact hvs j v hj)
      (fun j hj => by rw [hWc, Nat.add_assoc]; exact hsp1 _ (by omega)) (fun j hj => by rw [hWf, hW1, World.frozen?_setCells, Nat.add_assoc]; exact hfz _ (by omega)) h1v
  rw [← hW1] at hcp1
  go_enter Try.func26, Try.ntmps26
  go_wp2_with (simp only [hov])
  go_region_law_o (refine step_copy_runK rfl _ _ 22 22 rfl _ _ (by simp [Act.eval, Act.put]) (by simp [Act.eval, Act.put]) (hcp1 _ _ _) ?_)
  go_wp2_with (at_builtin; refine wpList_copy_runK _ rfl _ _ 22 22 rfl _ _ rfl rfl (hcp2 _ (fun _ => rfl) (fun _ => rfl) _ _) ?_)
  go_ret
  first | exact ⟨rfl, rfl⟩ | exact ⟨rfl, by rw [hW1]⟩

set_option maxHeartbeats 4000000 in
set_option maxRecDepth 100000 in
theorem ins_grow (b off n c i vb voff m vc : Nat) (cs vs : List Value) (w : World) (hi : i < n) (hm : 0 < m) (hnc : n ≤ c) (hroom : c < n + m) (hbig : (n + m) * 64 ≤ 140737488355328)
    (hcl : cs.length = n * 4) (hvl : vs.length = m * 4)
    (hcs : ∀ j v, cs[j]? = some v → w.cell? ⟨b, off + j, none⟩ = some v)
    (hvs : ∀ j v, vs[j]? = some v → w.cell? ⟨vb, voff + j, none⟩ = some v) (h1c : ∀ v ∈ cs, v.oneCell' = true) (h1v : ∀ v ∈ vs, v.oneCell' = true) (z : Value) (i0 : TypeInfo) (hi0 : Try.prog.info? 29 = some i0) (hz0 : i0.zero = some z) (hzs : i0.size = 4) (hzb : i0.bytes = 64) (hzc : z.cells.size = 4) :
    Calls Try.prog 26 #[.slice (some ⟨b, off, none⟩) n c, .int .i64 i, .slice (some ⟨vb, voff, none⟩) m vc] w fun e w' =>
      e = .returned (.slice (some ⟨w.heap.size, 0, none⟩) (n + m) (grownCap w (n + m) c 29)) ∧
      w' = (((w.alloc (.cells ((cs.take (i * 4)).toArray ++ Builtin.zeroCells z.cells (n + m - i) ++ Builtin.zeroCells z.cells (grownCap w (n + m) c 29 - (n + m))) 29)).drew.setCells w.heap.size (i * 4) vs).drew).setCells w.heap.size ((i + m) * 4) (cs.drop (i * 4)) := by
  have mixed : Try.prog.follows .mixedOrders = true := by kernel_rfl
  have hz1 : ¬ ((m : Int) = 0) := by omega
  have hz2 : ¬ ((i : Int) = (n : Int)) := by omega
  have hz3 : (c : Int) < (n : Int) + (m : Int) := by omega
  have hsz : (Try.prog.info? 29).map (·.size) = some 4 := by rw [hi0]; simp [hzs]
  have hbw : b < w.heap.size := World.block_lt_of_cell? w (a := ⟨b, off + 0, none⟩) (hcs 0 _ (List.getElem?_eq_getElem (by omega)))
  have hvw : vb < w.heap.size := World.block_lt_of_cell? w (a := ⟨vb, voff + 0, none⟩) (hvs 0 _ (List.getElem?_eq_getElem (by omega)))
  have hkk : (n : Int) + (m : Int) - (i : Int) = ((n + m - i : Nat) : Int) := by omega
  have hik : i + (n + m - i) = n + m := by omega
  have hold : (Builtin.firstCells i0.size i (.slice (some ⟨b, off, none⟩) i c)).run Try.prog w.drew = .ok (cs.take (i * 4)).toArray w.drew := by
    rw [hzs]
    exact run_firstCells_some w.drew 4 i ⟨b, off, none⟩ i c (cs.take (i * 4)) (by rw [List.length_take]; omega) (fun j v hj => by
      rw [Addr.add_lit]
      rw [List.getElem?_take] at hj
      split at hj
      · exact hcs j v hj
      · cases hj)
  have hrz : ∀ ty, (Builtin.append_ #[22, 3] ty #[.slice (some ⟨b, off, none⟩) i c, .int .i64 ((n : Int) + (m : Int) - (i : Int))]).run Try.prog w =
      .ok (.slice (some ⟨w.heap.size, 0, none⟩) (n + m) (grownCap w (n + m) c 29)) (w.drew.alloc (.cells ((cs.take (i * 4)).toArray ++ Builtin.zeroCells z.cells (n + m - i) ++ Builtin.zeroCells z.cells (grownCap w (n + m) c 29 - (n + m))) 29)) := fun ty => by
    have h := Lib.run_append_grow_zeros w 22 3 ty 29 i0 _ .i64 .i64 Try.underlying22 Try.underlying3 hi0 hz0 (some ⟨b, off, none⟩) i c (cs.take (i * 4)) hold (n + m - i) (by omega) (by omega) (by omega) (by omega) (by rw [hzb]; omega) (by rw [hzb, hik]; exact growslice_fits hroom hbig)
    rw [hik] at h
    rw [hkk]
    exact h
  obtain ⟨G, hG⟩ : ∃ G, G = grownCap w (n + m) c 29 := ⟨_, rfl⟩
  obtain ⟨ROW, hROW⟩ : ∃ ROW : Array Value, ROW = (cs.take (i * 4)).toArray ++ Builtin.zeroCells z.cells (n + m - i) ++ Builtin.zeroCells z.cells (G - (n + m)) := ⟨_, rfl⟩
  rw [← hG] at hrz ⊢
  rw [← hROW] at hrz ⊢
  have hRl : (n + m) * 4 ≤ ROW.size := by
    rw [hROW]
    simp only [Array.size_append, List.size_toArray, List.length_take, size_zeroCells, hzc]
    omega
  obtain ⟨W1, hW1⟩ : ∃ W1, W1 = w.drew.alloc (.cells ROW 29) := ⟨_, rfl⟩
  rw [← hW1] at hrz
  have hN : ∀ j, j < (n + m) * 4 → (W1.cell? ⟨w.heap.size, j, none⟩).isSome = true := fun j hj => by
    rw [hW1, World.cell?_alloc_at (w := w.drew) ROW _ w.heap.size j rfl, Array.getElem?_eq_getElem (by omega)]; rfl
  have hNf : ∀ j, W1.frozen? ⟨w.heap.size, j, none⟩ = false := fun j => by rw [hW1]; exact World.frozen?_alloc_at (w := w.drew) ROW _ w.heap.size j rfl
  have hOb : ∀ j v, w.cell? ⟨b, j, none⟩ = some v → W1.cell? ⟨b, j, none⟩ = some v := fun j v h => by rw [hW1, World.cell?_alloc_past (w := w.drew) _ b j hbw]; exact h
  have hOv : ∀ j v, w.cell? ⟨vb, j, none⟩ = some v → W1.cell? ⟨vb, j, none⟩ = some v := fun j v h => by rw [hW1, World.cell?_alloc_past (w := w.drew) _ vb j hvw]; exact h
  have hmin1 : Nat.min m (n + m - i) = m := by simp only [Nat.min_def]; split <;> omega
  have hmin2 : Nat.min (n - i) (n + m - (i + m)) = n - i := by simp only [Nat.min_def]; split <;> omega
  have hcpA : ∀ (W : World), (∀ x, W.cell? x = W1.cell? x) → (∀ x, W.frozen? x = W1.frozen? x) → ∀ ty dc, (Builtin.copy_ #[22, 22] ty #[.slice (some ⟨w.heap.size, i * 4, none⟩) (n + m - i) dc, .slice (some ⟨vb, voff, none⟩) m vc]).run Try.prog W = .ok (goInt (Nat.min m (n + m - i))) (W.setCells w.heap.size (i * 4) vs) := fun W hWc hWf ty dc =>
    run_copy_cellsK 4 W _ _ ty 29 w.heap.size (i * 4) (n + m - i) dc ⟨vb, voff, none⟩ m vc vs Try.underlying22 hsz (by rw [hvl, hmin1])
      (fun j v hj => by rw [Addr.add_lit, hWc]; exact hOv _ v (hvs j v hj))
      (fun j hj => by rw [hWc]; exact hN _ (by omega)) (fun j hj => by rw [hWf]; exact hNf _) h1v
  have hGn : n + m ≤ G := by rw [hG]; exact grownCap_ge w _ _ _
  have hG63 : G ≤ 9223372036854775807 := by
    have := grownCap_le_maxLen w (n + m) c 29 (by unfold maxLen; omega)
    rw [← hG] at this
    unfold maxLen at this
    omega
  have hGi : ¬ (G = i) := by omega
  have hGim : ¬ (G = i + m) := by omega
  have hci : ¬ (c = i) := by omega
  have hbN : b ≠ w.heap.size := by omega
  have hdl : (cs.drop (i * 4)).length = (n - i) * 4 := by rw [List.length_drop, hcl]; omega
  have hcpB : ∀ (W : World), (∀ x, W.cell? x = (W1.setCells w.heap.size (i * 4) vs).cell? x) → (∀ x, W.frozen? x = (W1.setCells w.heap.size (i * 4) vs).frozen? x) → ∀ ty dc sc, (Builtin.copy_ #[22, 22] ty #[.slice (some ⟨w.heap.size, (i + m) * 4, none⟩) (n + m - (i + m)) dc, .slice (some ⟨b, off + i * 4, none⟩) (n - i) sc]).run Try.prog W = .ok (goInt (Nat.min (n - i) (n + m - (i + m)))) (W.setCells w.heap.size ((i + m) * 4) (cs.drop (i * 4))) := fun W hWc hWf ty dc sc =>
    run_copy_cellsK 4 W _ _ ty 29 w.heap.size ((i + m) * 4) (n + m - (i + m)) dc ⟨b, off + i * 4, none⟩ (n - i) sc (cs.drop (i * 4)) Try.underlying22 hsz (by rw [hdl, hmin2])
      (fun j v hj => by
        rw [Addr.add_lit, hWc, World.cell?_setCells_out _ _ _ _ _ (fun h _ => absurd h hbN), Nat.add_assoc]
        exact hOb _ v (hcs (i * 4 + j) v (by rwa [List.getElem?_drop] at hj)))
      (fun j hj => by rw [hWc]; exact isSome_setCellsK _ _ _ _ (fun t ht => hN _ (by omega)) _ (hN _ (by omega)))
      (fun j hj => by rw [hWf, World.frozen?_setCells]; exact hNf _) (fun v hv => h1c v (List.mem_of_mem_drop hv))
  subst hW1
  have hE1 : ∀ x, ((w.alloc (.cells ROW 29)).drew).cell? x = (w.drew.alloc (.cells ROW 29)).cell? x := fun x => rfl
  have hE2 : ∀ x, ((w.alloc (.cells ROW 29)).drew).frozen? x = (w.drew.alloc (.cells ROW 29)).frozen? x := fun x => rfl
  have hF1 : ∀ x, (((w.alloc (.cells ROW 29)).drew.setCells w.heap.size (i * 4) vs).drew).cell? x = ((w.drew.alloc (.cells ROW 29)).setCells w.heap.size (i * 4) vs).cell? x := fun x => rfl
  have hF2 : ∀ x, (((w.alloc (.cells ROW 29)).drew.setCells w.heap.size (i * 4) vs).drew).frozen? x = ((w.drew.alloc (.cells ROW 29)).setCells w.heap.size (i * 4) vs).frozen? x := fun x => rfl
  have hw1 : IntKind.i64.wrap ((i : Int) + (m : Int)) = (i : Int) + (m : Int) := by rw [IntKind.wrap_i64]; omega
  have hb1 : (0 : Int) ≤ (i : Int) + (m : Int) := by omega
  have hin : i ≤ n := by omega
  have htn : ((i : Int) + (m : Int)).toNat = i + m := by omega
  have hb3 : (i : Int) ≤ (n : Int) := by omega
  clear hkk hik hold hROW hG hRl
  go_enter Try.func26, Try.ntmps26
  go_wp2_with (first
    | (at_builtin; refine Lib.wpList_append_run _ rfl _ _ _ _ rfl _ _ rfl rfl _ _ (hrz _) ?_)
    | (at_builtin; refine wpList_copy_runK _ rfl _ _ 22 22 rfl _ _ rfl rfl (hcpA _ hE1 hE2 _ _) ?_)
    | (at_builtin; refine wpList_copy_runK _ rfl _ _ 22 22 rfl _ _ rfl rfl (hcpB _ (fun _ => rfl) (fun _ => rfl) _ _ _) ?_))
  go_region_law_o (refine step_copy_runK rfl _ _ 22 22 rfl (.slice (some ⟨w.heap.size, (i + m) * 4, none⟩) (n + m - (i + m)) (G - (i + m))) (.slice (some ⟨b, off + i * 4, none⟩) (n - i) (c - i)) (by simp [Act.eval, Act.put]) (by simp [Act.eval, Act.put]) (hcpB _ hF1 hF2 3 (G - (i + m)) (c - i)) ?_)
  go_wp2
  go_ret
  exact ⟨rfl, rfl⟩
end Go.Proofs.Ytkdjdhfoodlnfaa
end

/-! slices.Insert of an entry, as an entry of the evaluator's table. -/
section
set_option linter.unusedVariables false
set_option linter.unusedSimpArgs false
namespace Go.Proofs.Ytkdjdhfoodlnfaa
open Go Go.Shelf Go.RowKit Go.Lib Go.Proofs Go.AE

theorem app_of {P : Program} {s : Sem Value} {w w' : World} {v : Value} (h : (do pure (Next.value (← s)) : Sem Next).run P w = .ok (.value v) w' ∨ ((do pure (Next.value (← s)) : Sem Next).run P w = .ok .skip w' ∧ v = undef)) : s.run P w = .ok v w' := by
  rw [Sem.run_bind] at h
  cases hs : s.run P w with
  | ok a w1 =>
    rw [hs] at h
    rcases h with h | ⟨h, _⟩
    · simp [Result.andThen, Sem.run_pure] at h
      rw [h.1, h.2]
    · simp [Result.andThen, Sem.run_pure] at h
  | _ =>
    rw [hs] at h
    rcases h with h | ⟨h, _⟩ <;> simp [Result.andThen] at h
set_option maxHeartbeats 4000000 in
set_option maxRecDepth 100000 in
theorem ins_end (a : Option Addr) (n c vb voff vc : Nat) (vv : Value) (w w' : World) (hnc : n ≤ c) (hnil : a = none → c = 0) (hrun : (Builtin.append_ #[22, 22] 22 #[.slice a n c, .slice (some ⟨vb, voff, none⟩) 1 vc]).run Try.prog w = .ok vv w') :
    Calls Try.prog 26 #[.slice a n c, .int .i64 n, .slice (some ⟨vb, voff, none⟩) 1 vc] w fun e w2 => e = .returned vv ∧ w2 = w' := by
  have mixed : Try.prog.follows .mixedOrders = true := by kernel_rfl
  go_enter Try.func26, Try.ntmps26
  cases a with
  | none =>
    have h0 := hnil rfl
    subst h0
    obtain rfl : n = 0 := by omega
    go_wp2_with (at_builtin; refine Lib.wpList_append_run _ rfl _ _ _ _ rfl _ _ rfl rfl _ _ hrun ?_)
    go_ret
    exact ⟨rfl, rfl⟩
  | some ad =>
    obtain ⟨ab, ao, asp⟩ := ad
    go_wp2_with (at_builtin; refine Lib.wpList_append_run _ rfl _ _ _ _ rfl _ _ rfl rfl _ _ hrun ?_)
    all_goals (go_ret; exact ⟨rfl, rfl⟩)

theorem ins_enter (vals : Array Value) (w : World) : (callFunc 26 vals).run Try.prog w = .ok (.enter 26 vals) w := enters_of Try.func26 (by kernel_rfl) rfl vals w
theorem info29 : ∃ i0, Try.prog.info? 29 = some i0 ∧ i0.zero = some (.agg #[.slice none 0 0, .int .i64 0, .slice none 0 0, .int .i64 0]) ∧ i0.size = 4 ∧ i0.bytes = 64 := by
  exact ⟨(Try.prog.info? 29).get (by kernel_rfl), (Option.some_get _).symm, by kernel_rfl, by kernel_rfl, by kernel_rfl⟩
def ti29' : TI := ⟨4, 64, (.agg #[(.slice none 0 0), (.int .i64 0), (.slice none 0 0), (.int .i64 0)]), (.struct #[⟨"Label", 23, 0, false, "", "", 0⟩, ⟨"E", 27, 1, false, "", "", 24⟩])⟩
theorem evApp_nil {h : List AO} {nn ex2 nn2 : Bool} {e : AV} (hf : fits 1 64 = true) : evAppend h 29 4 64 (.slc 4 true nn []) (.slc 4 ex2 nn2 [e]) = some (.own 4 h.length 0 0 1, h ++ [.row 29 4 0 [e] 0]) := by
  simp [evAppend, evAppendL, elemsOf, hf]
theorem evApp_own {h : List AO} {e : AV} {id ver : Nat} {l : List AV} {ex2 nn2 : Bool} (hi : h[id]? = some (.row 29 4 ver l 0)) (hf : fits (l.length + 1) 64 = true) : evAppend h 29 4 64 (.own 4 id ver 0 l.length) (.slc 4 ex2 nn2 [e]) = some (.own 4 id (ver + 1) 0 (l.length + 1), h.set id (.row 29 4 (ver + 1) (l ++ [e]) 0)) := by
  have hr' : AE.rowAt h 4 id ver l.length = some (l, 0) := by simp [AE.rowAt, hi]
  simp [evAppend, evAppendL, elemsOf, hf, hr', rowT, hi]

theorem ins_mid {B : Nat} {w0 w : World} {I : Cells} {σ : List AE.Loc} {h : List AO} (hI : AE.Inv B w0 I σ w h) {id ver j L2b L2o L2cap : Nat} {l : List AV} {e : AV} {L : AE.Loc} {arr : Array Value} {gv : Nat → Value}
    (hid : h[id]? = some (.row 29 4 ver l 0)) (hL : σ[id]? = some L) (hhas : L.has = true) (hb : w.heap[L.b]? = some (.cells arr 29 (0, 0))) (hasz : L.o + L.cap * 4 ≤ arr.size) (hcapl : l.length ≤ L.cap)
    (hsz : ∀ (j : Nat) (el : AV), l[j]? = some el → el.cells.length = 4)
    (hone : ∀ (j : Nat) (el : AV) (i : Nat) (c : AV), l[j]? = some el → el.cells[i]? = some c → (arr.getD (L.o + (j * 4 + i)) undef).oneCell' = true)
    (hrep : ∀ (j : Nat) (el : AV) (i : Nat) (c : AV), l[j]? = some el → el.cells[i]? = some c → Rep I w [] c (arr.getD (L.o + (j * 4 + i)) undef))
    (hno : ∀ x, L.o ≤ x → ¬ I L.b x) (hBb : B ≤ L.b ∧ L.b < w.heap.size) (hjl : j < l.length) (hvc : ∀ q, q < 4 → w.cell? ⟨L2b, L2o + q, none⟩ = some (gv q)) (hvI : ∀ q, q < 4 → I L2b (L2o + q)) (hes : e.cells.length = 4)
    (e1 : ∀ (q : Nat) (c : AV), e.cells[q]? = some c → (gv q).oneCell' = true)
    (er : ∀ (q : Nat) (c : AV), e.cells[q]? = some c → Rep I w [] c (gv q)) (hfit : fits (l.length + 1) 64 = true) :
    Calls Try.prog 26 #[.slice (some ⟨L.b, L.o, none⟩) l.length L.cap, .int .i64 j, .slice (some ⟨L2b, L2o, none⟩) 1 L2cap] w (AE.Ends B w0 I σ w (.own 4 id (ver + 1) 0 (l.length + 1)) (h.set id (.row 29 4 (ver + 1) (insAt l j e) 0))) := by
  obtain ⟨hf1, hf2⟩ := fits_iff hfit
  -- the cells
  have hal : arr.toList.length = arr.size := Array.length_toList
  obtain ⟨cs, hcsd⟩ : ∃ cs, cs = (arr.toList.drop L.o).take (l.length * 4) := ⟨_, rfl⟩
  obtain ⟨vs, hvsd⟩ : ∃ vs, vs = [gv 0, gv 1, gv 2, gv 3] := ⟨_, rfl⟩
  obtain ⟨varr, hva⟩ : ∃ varr : Array Value, varr = #[gv 0, gv 1, gv 2, gv 3] := ⟨_, rfl⟩
  have vD : ∀ q, q < 4 → varr.getD (0 + q) undef = gv q := by
    intro q hq
    rw [hva]
    match q, hq with
    | 0, _ => rfl
    | 1, _ => rfl
    | 2, _ => rfl
    | 3, _ => rfl
  have hcl : cs.length = l.length * 4 := by
    rw [hcsd, List.length_take, List.length_drop, hal]
    have : l.length * 4 ≤ L.cap * 4 := Nat.mul_le_mul_right _ hcapl
    omega
  have hvl : vs.length = 1 * 4 := by rw [hvsd]; rfl
  have csg : ∀ x, x < l.length * 4 → cs[x]? = some (arr.getD (L.o + x) undef) := by
    intro x hx
    have hlt : L.o + x < arr.size := by have := hcl; rw [hcsd, List.length_take, List.length_drop, hal] at this; omega
    rw [hcsd, List.getElem?_take_of_lt hx, List.getElem?_drop, Array.getElem?_toList, Array.getD_eq_getD_getElem?, Array.getElem?_eq_getElem hlt]
    rfl
  have vsg : ∀ x, x < 4 → vs[x]? = some (gv x) := by
    intro x hx
    rw [hvsd]
    match x, hx with
    | 0, _ => rfl
    | 1, _ => rfl
    | 2, _ => rfl
    | 3, _ => rfl
  have hcs : ∀ x v, cs[x]? = some v → w.cell? ⟨L.b, L.o + x, none⟩ = some v := by
    intro x v hx
    have hlt : x < l.length * 4 := by have := (List.getElem?_eq_some_iff.1 hx).1; omega
    rw [csg x hlt] at hx
    cases hx
    have hlt2 : L.o + x < arr.size := by have := hcl; rw [hcsd, List.length_take, List.length_drop, hal] at this; omega
    simp [World.cell?, hb, Array.getD, hlt2]
  have hvs : ∀ x v, vs[x]? = some v → w.cell? ⟨L2b, L2o + x, none⟩ = some v := by
    intro x v hx
    have hlt : x < 4 := by have := (List.getElem?_eq_some_iff.1 hx).1; omega
    rw [vsg x hlt] at hx
    cases hx
    exact hvc x hlt
  have h1c : ∀ v ∈ cs, v.oneCell' = true := by
    intro v hv
    obtain ⟨x, hx⟩ := List.getElem?_of_mem hv
    have hlt : x < l.length * 4 := by have := (List.getElem?_eq_some_iff.1 hx).1; omega
    rw [csg x hlt] at hx
    cases hx
    have hj : x / 4 < l.length := by omega
    have hel : l[x / 4]? = some l[x / 4] := List.getElem?_eq_getElem hj
    have hc : (l[x / 4]).cells[x % 4]? = some _ := List.getElem?_eq_getElem (by rw [hsz _ _ hel]; omega)
    have := hone _ _ _ _ hel hc
    rwa [show x / 4 * 4 + x % 4 = x by omega] at this
  have h1v : ∀ v ∈ vs, v.oneCell' = true := by
    intro v hv
    obtain ⟨x, hx⟩ := List.getElem?_of_mem hv
    have hlt : x < 4 := by have := (List.getElem?_eq_some_iff.1 hx).1; omega
    rw [vsg x hlt] at hx
    cases hx
    exact e1 x _ (List.getElem?_eq_getElem (by omega))
  have csD : ∀ x, x < l.length * 4 → cs.getD x undef = arr.getD (L.o + x) undef := fun x hx => by rw [List.getD_eq_getElem?_getD, csg x hx]; rfl
  have vsD : ∀ x, x < 4 → vs.getD x undef = varr.getD (0 + x) undef := fun x hx => by rw [List.getD_eq_getElem?_getD, vsg x hx, vD x hx]; rfl
  have e1' : ∀ (q : Nat) (c : AV), e.cells[q]? = some c → (varr.getD (0 + q) undef).oneCell' = true := fun q c hq => by
    have := (List.getElem?_eq_some_iff.1 hq).1
    rw [vD q (by omega)]; exact e1 q c hq
  have er' : ∀ (q : Nat) (c : AV), e.cells[q]? = some c → Rep I w [] c (varr.getD (0 + q) undef) := fun q c hq => by
    have := (List.getElem?_eq_some_iff.1 hq).1
    rw [vD q (by omega)]; exact er q c hq
  have hdl : (cs.drop (j * 4)).length = (l.length - j) * 4 := by rw [List.length_drop, hcl]; omega
  have dropD : ∀ x, (cs.drop (j * 4)).getD x undef = cs.getD (j * 4 + x) undef := fun x => by rw [List.getD_eq_getElem?_getD, List.getElem?_drop, List.getD_eq_getElem?_getD]
  have hlenI : (insAt l j e).length = l.length + 1 := insAt_len (by omega)
  by_cases hroom : l.length + 1 ≤ L.cap
  · have hfr : ∀ x, w.frozen? ⟨L.b, x, none⟩ = false := fun x => by simp [World.frozen?, hb]
    have hin : ∀ x, x < (l.length + 1) * 4 → L.o + x < arr.size := fun x hx => by
      have : (l.length + 1) * 4 ≤ L.cap * 4 := Nat.mul_le_mul_right _ hroom
      omega
    obtain ⟨tA, kA, hsa⟩ : ∃ tA kA, w.shape? L2b = some (tA, kA + 1) := by
      have hc := hvc 0 (by omega)
      unfold World.cell? at hc
      unfold World.shape?
      split at hc
      all_goals first
        | (rename_i hh; rw [hh]; split at hc
           all_goals first
            | (cases hc; done)
            | (have := (Array.getElem?_eq_some_iff.1 hc).1
               simp only at this
               exact ⟨_, _, by simp only; congr 2; exact (Nat.succ_pred_eq_of_pos (by omega)).symm⟩))
        | cases hc
    have hapart : L2b ≠ L.b ∨ L2o + 1 * 4 ≤ L.o := by
      by_cases e : L2b = L.b
      · right
        have h3 := hvI 3 (by omega)
        rw [e] at h3
        rcases Nat.lt_or_ge (L2o + 3) L.o with h | h
        · omega
        · exact absurd h3 (hno _ h)
      · exact .inl e
    have hwalk := ins_shift L.b L.o l.length L.cap j L2b L2o 1 L2cap cs vs w hjl (by omega) hroom (by omega) hapart hcl hvl hcs
      (fun x hx => by simp [World.cell?, hb, hin x hx]) (fun x _ => hfr _) hvs h1c h1v tA 29 kA hsa arr hb
    refine hwalk.mono ?_
    rintro en w2 ⟨rfl, rfl⟩
    have hbd : w.drew.heap[L.b]? = some (.cells arr 29 (0, 0)) := hb
    obtain ⟨A1, a1, a2, a3, a4, a5, a6⟩ := set_arr (B := B) (o := L.o + (j + 1) * 4) (vl := cs.drop (j * 4)) hbd (by rw [hdl]; have := hin ((l.length + 1) * 4 - 1) (by omega); omega) hBb.1
    obtain ⟨A2, b1, b2, b3, b4, b5, b6⟩ := set_arr (B := B) (o := L.o + j * 4) (vl := vs) a1 (by rw [hvl, a2]; have := hin ((l.length + 1) * 4 - 1) (by omega); omega) hBb.1
    have hA : ∀ x, x < (l.length + 1) * 4 → A2.getD (L.o + x) undef = if x < j * 4 then arr.getD (L.o + x) undef else if x < j * 4 + 4 then varr.getD (0 + (x - j * 4)) undef else arr.getD (L.o + (x - 4)) undef := by
      intro x hx
      rw [b3, a3, hvl, hdl]
      by_cases c1 : x < j * 4
      · rw [if_neg (by omega), if_neg (by omega), if_pos c1]
      · by_cases c2 : x < j * 4 + 4
        · rw [if_pos (by omega), if_neg c1, if_pos c2, show L.o + x - (L.o + j * 4) = x - j * 4 by omega, vsD _ (by omega)]
        · rw [if_neg (by omega), if_pos (by omega), if_neg c1, if_neg c2, dropD, show j * 4 + (L.o + x - (L.o + (j + 1) * 4)) = x - 4 by omega, csD _ (by omega)]
    obtain ⟨k1, k2, k3⟩ := ins_cells (I := I) (w := w) (by omega) hsz hes hone hrep e1' er' hA
    have hbel : Below B w ((w.drew.setCells L.b (L.o + (j + 1) * 4) (cs.drop (j * 4))).setCells L.b (L.o + j * 4) vs) := (((Below.refl B w).drew).trans a6).trans b6
    obtain ⟨σ', q1, q2, q3⟩ := hI.turned (w' := (w.drew.setCells L.b (L.o + (j + 1) * 4) (cs.drop (j * 4))).setCells L.b (L.o + j * 4) vs) (l' := insAt l j e) (b' := L.b) (o' := L.o) (cap' := L.cap) hid hL hhas hbel (.inl rfl) b1
      (fun c hc hcn => (b4 c hcn).trans (a4 c hcn))
      (fun x hx => by
        have hlt : x < L.o := by
          rcases Nat.lt_or_ge x L.o with h | h
          · exact h
          · exact absurd hx (hno x h)
        have := b3 x
        rw [if_neg (by omega), a3, if_neg (by omega)] at this
        have hxs : x < arr.size := by have := hin 0 (by omega); omega
        unfold World.cell?
        simp only [b1, hb, Option.isSome_none, Bool.false_eq_true, if_false]
        rw [Array.getD_eq_getD_getElem?, Array.getD_eq_getD_getElem?, Array.getElem?_eq_getElem (by rw [b2, a2]; exact hxs), Array.getElem?_eq_getElem hxs] at this
        rw [Array.getElem?_eq_getElem (by rw [b2, a2]; exact hxs), Array.getElem?_eq_getElem hxs]
        simpa using this)
      (by rw [b2, a2]; exact hasz) (by rw [hlenI]; exact hroom) k1 k2 k3 hno
    rw [hlenI] at q3
    exact ⟨_, I, σ', rfl, q1, q2, q3⟩
  · have hcapeq : L.cap = l.length := by omega
    obtain ⟨i0, hi0, hz0, hzs, hzb⟩ := info29
    have hwalk := ins_grow L.b L.o l.length L.cap j L2b L2o 1 L2cap cs vs w hjl (by omega) hcapl (by omega) hf2 hcl hvl hcs hvs h1c h1v _ i0 hi0 hz0 hzs hzb rfl
    refine hwalk.mono ?_
    rintro en w2 ⟨rfl, rfl⟩
    obtain ⟨G, hG⟩ : ∃ G, G = grownCap w (l.length + 1) L.cap 29 := ⟨_, rfl⟩
    have hGn : l.length + 1 ≤ G := by rw [hG]; exact grownCap_ge w _ _ _
    rw [← hG]
    generalize hz : (Value.agg #[.slice none 0 0, .int .i64 0, .slice none 0 0, .int .i64 0]).cells = zc
    have hzc : zc.size = 4 := by rw [← hz]; rfl
    obtain ⟨ROW, hROW⟩ : ∃ ROW : Array Value, ROW = (cs.take (j * 4)).toArray ++ Builtin.zeroCells zc (l.length + 1 - j) ++ Builtin.zeroCells zc (G - (l.length + 1)) := ⟨_, rfl⟩
    rw [← hROW]
    have hRs : ROW.size = G * 4 := by
      rw [hROW]
      simp only [Array.size_append, List.size_toArray, List.length_take, size_zeroCells, hzc]
      omega
    have hb0 : ((w.alloc (.cells ROW 29)).drew).heap[w.heap.size]? = some (.cells ROW 29 (0, 0)) := heap_new (w := w) (.cells ROW 29)
    obtain ⟨A1, a1, a2, a3, a4, a5, a6⟩ := set_arr (B := B) (o := j * 4) (vl := vs) hb0 (by rw [hvl, hRs]; omega) hI.base
    have a1' : (((w.alloc (.cells ROW 29)).drew.setCells w.heap.size (j * 4) vs).drew).heap[w.heap.size]? = some (.cells A1 29 (0, 0)) := a1
    obtain ⟨A2, b1, b2, b3, b4, b5, b6⟩ := set_arr (B := B) (o := (j + 1) * 4) (vl := cs.drop (j * 4)) a1' (by rw [hdl, a2, hRs]; omega) hI.base
    have rowD : ∀ x, x < j * 4 → ROW.getD x undef = arr.getD (L.o + x) undef := by
      intro x hx
      rw [hROW, Array.append_assoc, getD_left (by rw [List.size_toArray, List.length_take]; omega), list_arr, List.getD_eq_getElem?_getD, List.getElem?_take_of_lt hx, csg x (by omega)]
      rfl
    have hA : ∀ x, x < (l.length + 1) * 4 → A2.getD (0 + x) undef = if x < j * 4 then arr.getD (L.o + x) undef else if x < j * 4 + 4 then varr.getD (0 + (x - j * 4)) undef else arr.getD (L.o + (x - 4)) undef := by
      intro x hx
      rw [Nat.zero_add, b3, a3, hvl, hdl]
      by_cases c1 : x < j * 4
      · rw [if_neg (by omega), if_neg (by omega), if_pos c1, rowD x c1]
      · by_cases c2 : x < j * 4 + 4
        · rw [if_neg (by omega), if_pos (by omega), if_neg c1, if_pos c2, vsD _ (by omega)]
        · rw [if_pos (by omega), if_neg c1, if_neg c2, dropD, show j * 4 + (x - (j + 1) * 4) = x - 4 by omega, csD _ (by omega)]
    obtain ⟨k1, k2, k3⟩ := ins_cells (I := I) (w := w) (by omega) hsz hes hone hrep e1' er' hA
    have hbel0 : Below B w ((w.alloc (.cells ROW 29)).drew) := (below_new hI.base _).drew
    have hbel : Below B w ((((w.alloc (.cells ROW 29)).drew.setCells w.heap.size (j * 4) vs).drew).setCells w.heap.size ((j + 1) * 4) (cs.drop (j * 4))) := ((hbel0.trans a6).drew).trans b6
    have hold : ∀ c, c < w.heap.size → ((w.alloc (.cells ROW 29)).drew).heap[c]? = w.heap[c]? := fun c hc => Below.heap_alloc w _ c hc
    obtain ⟨σ', q1, q2, q3⟩ := hI.turned (w' := (((w.alloc (.cells ROW 29)).drew.setCells w.heap.size (j * 4) vs).drew).setCells w.heap.size ((j + 1) * 4) (cs.drop (j * 4))) (l' := insAt l j e) (b' := w.heap.size) (o' := 0) (cap' := G) hid hL hhas hbel (.inr (Nat.le_refl _)) b1
      (fun c hc hcn => ((b4 c hcn).trans (a4 c hcn)).trans (hold c hc))
      (fun x hx => by have := hI.imm_lt hx; omega)
      (by rw [b2, a2, hRs]; omega) (by rw [hlenI]; exact hGn) k1 k2 k3 (fun x _ hx => by have := hI.imm_lt hx; omega)
    rw [hlenI] at q3
    exact ⟨_, I, σ', rfl, q1, q2, q3⟩
theorem ins_ok (hT29 : TIok Try.prog 29 ti29') : ∀ args h r h', insG 29 4 64 args h = some (r, h') → (∀ (vals : Array Value) (w : World), (callFunc 26 vals).run Try.prog w = .ok (.enter 26 vals) w) ∧
    ∀ B w0 I σ w (vals : Array Value), AE.Inv B w0 I σ w h → ArgsRep I w σ args vals → Calls Try.prog 26 vals w (AE.Ends B w0 I σ w r h') := by
  intro args h r h' hg
  refine ⟨ins_enter, fun B w0 I σ w vals hI ha => ?_⟩
  unfold insG at hg
  split at hg
  · rename_i s i s2 ex2 nn2 e
    split at hg
    · rename_i hs2
      subst hs2
      have hsz := ha.size
      obtain ⟨vl⟩ := vals
      match vl, hsz with
      | [vS, vI, vV], _ =>
        have rS : Rep I w σ s vS := ha.rep 0 _ rfl
        have rI : Rep I w σ (.v (.int .i64 i)) vI := ha.rep 1 _ rfl
        have rV : Rep I w σ (.slc 4 ex2 nn2 [e]) vV := ha.rep 2 _ rfl
        cases rI
        have rV' := rV
        cases rV with
        | slc _ _ _ _ _ a2 cap2 b2 o2 g2 hna2 hn2 hnil2 hcap2 hex2 hsz2 hcc2 hi2 h12 hr2 =>
        obtain rfl := hna2 (by simp)
        have hes : e.cells.length = 4 := hsz2 0 e rfl
        have cell : ∀ q, q < 4 → ∃ c, e.cells[q]? = some c := fun q hq => ⟨_, List.getElem?_eq_getElem (by omega)⟩
        have hvc : ∀ q, q < 4 → w.cell? ⟨b2, o2 + q, none⟩ = some (g2 0 q) := fun q hq => by
          obtain ⟨c, hc⟩ := cell q hq
          have := hcc2 0 e q c rfl hc
          simpa using this
        have hvI : ∀ q, q < 4 → I b2 (o2 + q) := fun q hq => by
          obtain ⟨c, hc⟩ := cell q hq
          have := hi2 0 e q c rfl hc
          simpa using this
        have e1 : ∀ (q : Nat) (c : AV), e.cells[q]? = some c → (g2 0 q).oneCell' = true := fun q c hq => h12 0 e q c rfl hq
        have er : ∀ (q : Nat) (c : AV), e.cells[q]? = some c → Rep I w [] c (g2 0 q) := fun q c hq => hr2 0 e q c rfl hq
        split at hg
        · rename_i s1 nn
          split at hg
          · rename_i hc
            obtain ⟨rfl, rfl, hfit⟩ := hc
            cases hg
            have rS' := rS
            cases rS with
            | slc _ _ _ _ _ a cap b o g hna hn hnil hcap hex hszz hcc hi h1 hr =>
            obtain ⟨v, w1, I1, σ1, hrun, hI1, hst, hrp⟩ := gives_append (ty := 22) hI Try.underlying22 hT29 rfl rS' rV' (evApp_nil hfit)
            refine (ins_end a 0 cap b2 o2 cap2 v w w1 (Nat.zero_le _) hnil (app_of hrun)).mono ?_
            rintro e w2 ⟨rfl, rfl⟩
            exact ⟨v, I1, σ1, rfl, hI1, hst, hrp⟩
          · cases hg
        · rename_i s1 id ver n
          split at hg
          · rename_i t s0 v l hid
            split at hg
            · rename_i hc
              obtain ⟨rfl, rfl, rfl, rfl, rfl, hn0, hi0, hin, hfit⟩ := hc
              cases hg
              obtain ⟨j, rfl⟩ : ∃ j : Nat, i = j := ⟨i.toNat, by omega⟩
              rw [Int.toNat_natCast]
              have hjn : j ≤ l.length := by omega
              have rS' := rS
              cases rS with
              | own _ _ _ _ _ _ y h1x L hL hvv hxo =>
              obtain ⟨hf1, hver1, hR1⟩ := hI.obj _ _ L hid hL
              rcases hxo hver1.symm with ⟨hhas, hcap, rfl⟩ | ⟨hx0, _⟩
              · rw [Nat.zero_mul, Nat.add_zero, Nat.sub_zero] at rS' ⊢
                by_cases hend : j = l.length
                · subst hend
                  obtain ⟨v, w1, I1, σ1, hrun, hI1, hst, hrp⟩ := gives_append (ty := 22) hI Try.underlying22 hT29 rfl rS' rV' (evApp_own hid hfit)
                  have hins : insAt l l.length e = l ++ [e] := by
                    unfold insAt
                    rw [List.take_length, List.drop_length]
                  rw [hins]
                  refine (ins_end _ l.length L.cap b2 o2 cap2 v w w1 (by omega) (fun e => by cases e) (app_of hrun)).mono ?_
                  rintro e w2 ⟨rfl, rfl⟩
                  exact ⟨v, I1, σ1, rfl, hI1, hst, hrp⟩
                · have hjl : j < l.length := by omega
                  rcases hR1.lies with ⟨hx0, _⟩ | ⟨_, arr, hb, hasz, hcapl, hone, hrep, _, hno⟩
                  · subst hx0; simp at hn0
                  · have hBb := hI.mine _ L hL hhas
                    have hno' : ∀ x, L.o ≤ x → ¬ I L.b x := fun x hx => hno x (by omega)
                    exact ins_mid hI hid hL hhas hb hasz hcapl hR1.hsz hone hrep hno' hBb hjl hvc hvI hes e1 er hfit
              · omega
            · cases hg
          · cases hg
        · cases hg
    · cases hg
  · cases hg
end Go.Proofs.Ytkdjdhfoodlnfaa
end

/-! The functions of the program that the laws of layer 20 reach, as the evaluator carries them out, each checked against the loaded program; what Put gives stays a row. -/
section
set_option linter.unusedVariables false
set_option maxRecDepth 100000
namespace Go.Proofs.Ytkdjdhfoodlnfaa
open Go Go.AE Go.Proofs
def K (_ : Nat) (_ : World) : Prop := True
theorem hKs : Holds K := holds_true
theorem mixed0 : Try.prog.follows .mixedOrders = true := by kernel_rfl
def ti2 : TI := ⟨1, 8, (.int .i64 0), (.int .i64)⟩
theorem tiOk2 : TIok Try.prog 2 ti2 := tiok_of (by kernel_rfl) (by kernel_rfl)
def ti3 : TI := ⟨1, 8, (.int .i64 0), (.int .i64)⟩
theorem tiOk3 : TIok Try.prog 3 ti3 := tiok_of (by kernel_rfl) (by kernel_rfl)
def ti9 : TI := ⟨1, 16, (.string ⟨#[]⟩), .string⟩
theorem tiOk9 : TIok Try.prog 9 ti9 := tiok_of (by kernel_rfl) (by kernel_rfl)
def ti22 : TI := ⟨1, 24, (.slice none 0 0), (.slice 29)⟩
theorem tiOk22 : TIok Try.prog 22 ti22 := tiok_of (by kernel_rfl) (by kernel_rfl)
def ti23 : TI := ⟨1, 24, (.slice none 0 0), (.slice 3)⟩
theorem tiOk23 : TIok Try.prog 23 ti23 := tiok_of (by kernel_rfl) (by kernel_rfl)
def ti24 : TI := ⟨1, 24, (.slice none 0 0), (.slice 66)⟩
theorem tiOk24 : TIok Try.prog 24 ti24 := tiok_of (by kernel_rfl) (by kernel_rfl)
def ti25 : TI := ⟨1, 8, (.int .i64 0), (.int .i64)⟩
theorem tiOk25 : TIok Try.prog 25 ti25 := tiok_of (by kernel_rfl) (by kernel_rfl)
def ti27 : TI := ⟨3, 40, (.agg #[(.int .i64 0), (.slice none 0 0), (.int .i64 0)]), (.struct #[⟨"Kind", 3, 0, false, "", "", 0⟩, ⟨"Terms", 24, 1, false, "", "", 8⟩, ⟨"E", 25, 2, false, "", "", 32⟩])⟩
theorem tiOk27 : TIok Try.prog 27 ti27 := tiok_of (by kernel_rfl) (by kernel_rfl)
def ti29 : TI := ⟨4, 64, (.agg #[(.slice none 0 0), (.int .i64 0), (.slice none 0 0), (.int .i64 0)]), (.struct #[⟨"Label", 23, 0, false, "", "", 0⟩, ⟨"E", 27, 1, false, "", "", 24⟩])⟩
theorem tiOk29 : TIok Try.prog 29 ti29 := tiok_of (by kernel_rfl) (by kernel_rfl)
def ti37 : TI := ⟨1, 8, .nilFunc, (.func #[23, 23] #[3] false)⟩
theorem tiOk37 : TIok Try.prog 37 ti37 := tiok_of (by kernel_rfl) (by kernel_rfl)
def ti39 : TI := ⟨1, 24, (.slice none 0 0), (.slice 23)⟩
theorem tiOk39 : TIok Try.prog 39 ti39 := tiok_of (by kernel_rfl) (by kernel_rfl)
def ti45 : TI := ⟨1, 24, (.slice none 0 0), (.slice 27)⟩
theorem tiOk45 : TIok Try.prog 45 ti45 := tiok_of (by kernel_rfl) (by kernel_rfl)
def ti50 : TI := ⟨1, 8, .nilFunc, (.func #[3] #[4] false)⟩
theorem tiOk50 : TIok Try.prog 50 ti50 := tiok_of (by kernel_rfl) (by kernel_rfl)
def ti56 : TI := ⟨1, 8, .nilFunc, (.func #[29] #[4] false)⟩
theorem tiOk56 : TIok Try.prog 56 ti56 := tiok_of (by kernel_rfl) (by kernel_rfl)
def ti59 : TI := ⟨1, 8, (.int .u64 0), (.int .u64)⟩
theorem tiOk59 : TIok Try.prog 59 ti59 := tiok_of (by kernel_rfl) (by kernel_rfl)
def ti66 : TI := ⟨4, 56, (.agg #[(.int .i64 0), (.string ⟨#[]⟩), (.int .i64 0), (.slice none 0 0)]), (.struct #[⟨"Kind", 3, 0, false, "", "", 0⟩, ⟨"Name", 9, 1, false, "", "", 8⟩, ⟨"N", 2, 2, false, "", "", 24⟩, ⟨"Args", 24, 3, false, "", "", 32⟩])⟩
theorem tiOk66 : TIok Try.prog 66 ti66 := tiok_of (by kernel_rfl) (by kernel_rfl)
def tys : List (TypeId × TI) := [(2, ti2), (3, ti3), (9, ti9), (22, ti22), (23, ti23), (24, ti24), (25, ti25), (27, ti27), (29, ti29), (37, ti37), (39, ti39), (45, ti45), (50, ti50), (56, ti56), (59, ti59), (66, ti66)]
def pures : List FuncId := [0, 1, 2, 3, 4, 5, 6, 7, 8, 9, 10, 12, 14, 15, 17, 18, 19, 20, 21, 22, 25, 28, 34, 35, 36, 37, 38, 39, 40, 41, 42, 43, 44, 45, 46, 47, 48, 49, 50, 51, 52, 53, 54, 55, 61, 62, 63]
def lits : List TypeId := []
def frz : List FuncId := []
def pushes : List FuncId := [27]
def T : Tb := ⟨fun t => tys.lookup t, fun f => pures.contains f, fun t => lits.contains t, fun f => frz.contains f, fun f => pushes.contains f⟩
def T0 : Tb := ⟨fun t => tys.lookup t, fun f => pures.contains f, fun t => lits.contains t, fun f => frz.contains f, fun _ => false⟩
theorem hnp0 : ∀ f, T0.push f = false := fun _ => rfl
theorem hT : TbOk Try.prog T := tbok_of (fun p hp => by
  simp only [tys, List.mem_cons, List.not_mem_nil, or_false] at hp
  rcases hp with rfl | rfl | rfl | rfl | rfl | rfl | rfl | rfl | rfl | rfl | rfl | rfl | rfl | rfl | rfl | rfl
  · exact tiOk2
  · exact tiOk3
  · exact tiOk9
  · exact tiOk22
  · exact tiOk23
  · exact tiOk24
  · exact tiOk25
  · exact tiOk27
  · exact tiOk29
  · exact tiOk37
  · exact tiOk39
  · exact tiOk45
  · exact tiOk50
  · exact tiOk56
  · exact tiOk59
  · exact tiOk66)
theorem hT0 : TbOk Try.prog T0 := hT

/-! spinney/spinneylaw20.LogPuts -/
def c3_0 : List CO := [⟨(.box 29 (.var 1)), (some 2), none⟩,
  ⟨(.mov (.k (.bool false))), (some 3), none⟩]
def c3_1 : List CO := [⟨(.call true 8 []), none, none⟩,
  ⟨(.mov (.loc 0)), (some 4), none⟩]
def c3_2 : List CO := [⟨(.mov (.var 0)), none, none⟩,
  ⟨(.fa 0 (.var 2)), none, none⟩,
  ⟨(.load false 1 (.loc 0)), none, none⟩,
  ⟨(.bslice 1 [(.slice none 0 0)] 1 [(0, (.loc 0))]), none, none⟩,
  ⟨(.call true 9 [(.loc 3), (.loc 0)]), none, none⟩,
  ⟨(.mov (.loc 0)), none, none⟩,
  ⟨(.mov (.var 0)), none, (some ((.loc 0), false))⟩,
  ⟨(.call true 10 [(.loc 0)]), none, (some ((.loc 1), false))⟩,
  ⟨(.un .not (.loc 0)), none, (some ((.loc 2), false))⟩,
  ⟨(.pick (.loc 3) (.k (.bool true)) (.loc 0)), (some 12), none⟩]
def c3_3 : List CO := [⟨(.mov (.var 4)), none, none⟩,
  ⟨(.mov (.loc 0)), (some 3), none⟩]
def c3_4 : List CO := [⟨(.mov (.var 0)), none, none⟩,
  ⟨(.len .slice (.loc 0)), none, none⟩,
  ⟨(.bin .add (.loc 0) (.k (.int .i64 3))), none, none⟩,
  ⟨(.mkslice 29 4 64 [(.slice none 0 0), (.int .i64 0), (.slice none 0 0), (.int .i64 0)] (.k (.int .i64 0)) (.loc 0)), none, none⟩,
  ⟨(.mov (.var 0)), none, none⟩,
  ⟨(.append 29 4 64 (.loc 1) (.loc 0)), none, none⟩,
  ⟨(.mov (.loc 0)), (some 5), none⟩]
def c3_5 : List CO := [⟨(.mov (.var 5)), none, none⟩,
  ⟨(.load true 4 (.var 2)), none, none⟩,
  ⟨(.call false 11 [(.loc 1), (.loc 0)]), none, none⟩,
  ⟨(.mov (.loc 0)), none, none⟩,
  ⟨(.extract (.loc 0) 0), none, none⟩,
  ⟨(.extract (.loc 1) 1), none, none⟩,
  ⟨(.mov (.loc 1)), (some 6), none⟩,
  ⟨(.mov (.loc 1)), (some 7), none⟩]
def c3_6 : List CO := [⟨(.mov (.var 0)), none, none⟩,
  ⟨(.load true 4 (.var 2)), none, none⟩,
  ⟨(.call true 12 [(.loc 1), (.loc 0)]), none, none⟩,
  ⟨(.mov (.loc 0)), none, none⟩,
  ⟨(.extract (.loc 0) 0), none, none⟩,
  ⟨(.extract (.loc 1) 1), none, none⟩,
  ⟨(.mov (.loc 1)), (some 8), none⟩,
  ⟨(.mov (.loc 1)), (some 9), none⟩]
def c3_7 : List CO := [⟨(.mov (.var 6)), none, none⟩,
  ⟨(.mov (.var 8)), none, none⟩,
  ⟨(.call false 13 [(.loc 1), (.loc 0)]), none, none⟩,
  ⟨(.mov (.loc 0)), none, none⟩,
  ⟨(.mov (.var 7)), none, (some ((.loc 0), true))⟩,
  ⟨(.mov (.var 9)), none, (some ((.loc 1), true))⟩,
  ⟨(.bin .eql (.loc 1) (.loc 0)), none, (some ((.loc 2), true))⟩,
  ⟨(.pick (.loc 3) (.loc 0) (.k (.bool false))), none, none⟩,
  ⟨(.mov (.loc 0)), (some 10), none⟩]
def c3_8 : List CO := [⟨(.mov (.var 6)), none, none⟩,
  ⟨(.len .slice (.loc 0)), (some 13), none⟩,
  ⟨(.mov (.k (.int .i64 0))), (some 14), none⟩]
def c3_9 : List CO := [⟨(.bin .lss (.var 14) (.var 13)), (some 15), none⟩]
def c3_10 : List CO := [⟨(.mov (.var 14)), none, none⟩,
  ⟨(.mov (.loc 0)), (some 11), none⟩]
def c3_11 : List CO := [⟨(.mov (.var 6)), none, none⟩,
  ⟨(.mov (.var 11)), none, none⟩,
  ⟨(.ia 4 (.loc 1) (.loc 0)), none, none⟩,
  ⟨(.fa 1 (.loc 0)), none, none⟩,
  ⟨(.fa 0 (.loc 0)), none, none⟩,
  ⟨(.store 1 (.loc 0) (.k (.int .i64 77))), none, none⟩]
def c3_12 : List CO := [⟨(.bin .add (.var 14) (.k (.int .i64 1))), none, none⟩,
  ⟨(.mov (.loc 0)), (some 14), none⟩]
def c3_13 : CC := (.seq (.region [] [] c3_9) (.seq (.cond (.var 15) .skip (.exit 0)) (.seq (.block 1 (.seq (.region [] [] c3_10) (.region [] [] c3_11))) (.region [] [] c3_12))))
def c3_14 : List CO := [⟨(.mov (.var 4)), none, none⟩,
  ⟨(.mov (.loc 0)), none, none⟩,
  ⟨(.mov (.var 10)), none, (some ((.loc 0), true))⟩,
  ⟨(.pick (.loc 1) (.loc 0) (.k (.bool false))), none, none⟩,
  ⟨(.mov (.loc 0)), none, none⟩,
  ⟨(.mov (.var 5)), none, (some ((.loc 0), true))⟩,
  ⟨(.mov (.var 0)), none, (some ((.loc 1), true))⟩,
  ⟨(.call false 13 [(.loc 1), (.loc 0)]), none, (some ((.loc 2), true))⟩,
  ⟨(.pick (.loc 3) (.loc 0) (.k (.bool false))), none, none⟩,
  ⟨(.mov (.loc 0)), (some 3), none⟩]
def c3 : CFun := ⟨2, 16, (.seq (.region [] [] c3_0) (.seq (.region [] [] c3_1) (.seq (.seq (.region [] [] c3_2) (.cond (.var 12) (.seq (.region [] [] c3_3) .ret) .skip)) (.seq (.region [] [] c3_4) (.seq (.region [.v 5] [] c3_5) (.seq (.region [] [] c3_6) (.seq (.region [] [] c3_7) (.seq (.seq (.region [] [] c3_8) (.block 0 (.loop [true, false, false, false, true, true, true, false, false, false, true, false, false, true, true, false] [] c3_13))) (.seq (.region [] [] c3_14) .ret))))))))), [.var 3]⟩
theorem ok3 : CodeOk Try.prog T 3 c3 := ⟨⟨Try.f3, Hints.of [(5, [.v 5])] [] [(0, [true, false, false, false, true, true, true, false, false, false, true, false, false, true, true, false], [])], [0, 1, 3, 4, 5, 6, 7, 8, 9, 10, 11, 12, 23, 52, 53, 54], Try.func3, by kernel_rfl, by kernel_rfl⟩⟩

/-! spinney/spinneylaw20.LogDrops -/
def c7_0 : List CO := [⟨(.mov (.k (.bool false))), (some 4), none⟩]
def c7_1 : List CO := [⟨(.call true 8 []), none, none⟩,
  ⟨(.mov (.loc 0)), (some 5), none⟩]
def c7_2 : List CO := [⟨(.mov (.var 0)), none, none⟩,
  ⟨(.mov (.var 3)), none, none⟩,
  ⟨(.call true 9 [(.loc 1), (.loc 0)]), none, none⟩,
  ⟨(.mov (.loc 0)), none, none⟩,
  ⟨(.mov (.var 1)), none, (some ((.loc 0), false))⟩,
  ⟨(.len .slice (.loc 0)), none, (some ((.loc 1), false))⟩,
  ⟨(.bin .gtr (.loc 0) (.k (.int .i64 100))), none, (some ((.loc 2), false))⟩,
  ⟨(.pick (.loc 3) (.k (.bool true)) (.loc 0)), (some 10), none⟩]
def c7_3 : List CO := [⟨(.mov (.var 5)), none, none⟩,
  ⟨(.mov (.loc 0)), (some 4), none⟩]
def c7_4 : List CO := [⟨(.mov (.var 0)), none, none⟩,
  ⟨(.append 29 4 64 (.k (.slice none 0 0)) (.loc 0)), none, none⟩,
  ⟨(.mov (.loc 0)), (some 6), none⟩]
def c7_5 : List CO := [⟨(.mov (.var 6)), none, none⟩,
  ⟨(.mov (.var 1)), none, none⟩,
  ⟨(.mov (.var 2)), none, none⟩,
  ⟨(.call false 16 [(.loc 2), (.loc 1), (.loc 0)]), none, none⟩,
  ⟨(.mov (.loc 0)), (some 7), none⟩]
def c7_6 : List CO := [⟨(.mov (.var 7)), none, none⟩,
  ⟨(.mov (.var 0)), none, none⟩,
  ⟨(.mov (.var 1)), none, none⟩,
  ⟨(.mov (.var 2)), none, none⟩,
  ⟨(.call true 17 [(.loc 2), (.loc 1), (.loc 0)]), none, none⟩,
  ⟨(.call false 13 [(.loc 4), (.loc 0)]), none, none⟩,
  ⟨(.mov (.loc 0)), none, none⟩,
  ⟨(.mov (.var 6)), none, (some ((.loc 0), true))⟩,
  ⟨(.mov (.var 3)), none, (some ((.loc 1), true))⟩,
  ⟨(.call true 15 [(.loc 1), (.loc 0)]), none, (some ((.loc 2), true))⟩,
  ⟨(.mov (.var 0)), none, (some ((.loc 3), true))⟩,
  ⟨(.mov (.var 3)), none, (some ((.loc 4), true))⟩,
  ⟨(.call true 18 [(.loc 1), (.loc 0)]), none, (some ((.loc 5), true))⟩,
  ⟨(.bin .eql (.loc 3) (.loc 0)), none, (some ((.loc 6), true))⟩,
  ⟨(.pick (.loc 7) (.loc 0) (.k (.bool false))), none, none⟩,
  ⟨(.mov (.loc 0)), none, none⟩,
  ⟨(.mov (.var 6)), none, (some ((.loc 0), true))⟩,
  ⟨(.call true 20 [(.loc 0)]), none, (some ((.loc 1), true))⟩,
  ⟨(.mov (.var 0)), none, (some ((.loc 2), true))⟩,
  ⟨(.call true 21 [(.loc 0)]), none, (some ((.loc 3), true))⟩,
  ⟨(.call true 19 [(.loc 2), (.loc 0)]), none, (some ((.loc 4), true))⟩,
  ⟨(.pick (.loc 5) (.loc 0) (.k (.bool false))), none, none⟩,
  ⟨(.mov (.loc 0)), (some 8), none⟩]
def c7_7 : List CO := [⟨(.mov (.var 7)), none, none⟩,
  ⟨(.len .slice (.loc 0)), (some 11), none⟩,
  ⟨(.mov (.k (.int .i64 0))), (some 12), none⟩]
def c7_8 : List CO := [⟨(.bin .lss (.var 12) (.var 11)), (some 13), none⟩]
def c7_9 : List CO := [⟨(.mov (.var 12)), none, none⟩,
  ⟨(.mov (.loc 0)), (some 9), none⟩]
def c7_10 : List CO := [⟨(.mov (.var 7)), none, none⟩,
  ⟨(.mov (.var 9)), none, none⟩,
  ⟨(.ia 4 (.loc 1) (.loc 0)), none, none⟩,
  ⟨(.fa 1 (.loc 0)), none, none⟩,
  ⟨(.fa 0 (.loc 0)), none, none⟩,
  ⟨(.store 1 (.loc 0) (.k (.int .i64 77))), none, none⟩]
def c7_11 : List CO := [⟨(.bin .add (.var 12) (.k (.int .i64 1))), none, none⟩,
  ⟨(.mov (.loc 0)), (some 12), none⟩]
def c7_12 : CC := (.seq (.region [] [] c7_8) (.seq (.cond (.var 13) .skip (.exit 0)) (.seq (.block 1 (.seq (.region [] [] c7_9) (.region [] [] c7_10))) (.region [] [] c7_11))))
def c7_13 : List CO := [⟨(.mov (.var 5)), none, none⟩,
  ⟨(.mov (.loc 0)), none, none⟩,
  ⟨(.mov (.var 8)), none, (some ((.loc 0), true))⟩,
  ⟨(.pick (.loc 1) (.loc 0) (.k (.bool false))), none, none⟩,
  ⟨(.mov (.loc 0)), none, none⟩,
  ⟨(.mov (.var 6)), none, (some ((.loc 0), true))⟩,
  ⟨(.mov (.var 0)), none, (some ((.loc 1), true))⟩,
  ⟨(.call false 13 [(.loc 1), (.loc 0)]), none, (some ((.loc 2), true))⟩,
  ⟨(.pick (.loc 3) (.loc 0) (.k (.bool false))), none, none⟩,
  ⟨(.mov (.loc 0)), (some 4), none⟩]
def c7 : CFun := ⟨4, 14, (.seq (.region [] [] c7_0) (.seq (.region [] [] c7_1) (.seq (.seq (.region [] [] c7_2) (.cond (.var 10) (.seq (.region [] [] c7_3) .ret) .skip)) (.seq (.region [] [] c7_4) (.seq (.region [.v 6] [] c7_5) (.seq (.region [] [] c7_6) (.seq (.seq (.region [] [] c7_7) (.block 0 (.loop [true, false, false, false, false, true, true, true, true, false, false, true, true, false] [] c7_12))) (.seq (.region [] [] c7_13) .ret)))))))), [.var 4]⟩
theorem ok7 : CodeOk Try.prog T 7 c7 := ⟨⟨Try.f7, Hints.of [(5, [.v 6])] [] [(0, [true, false, false, false, false, true, true, true, true, false, false, true, true, false], [])], [0, 1, 2, 3, 8, 9, 10, 11, 12, 13, 22, 53, 54, 55], Try.func7, by kernel_rfl, by kernel_rfl⟩⟩

/-! spinney/spinneylaw20.live -/
def c8_0 : List CO := [⟨(.mov (.k (.bool false))), (some 0), none⟩]
def c8_1 : List CO := [⟨(.bslice 1 [(.int .i64 0)] 1 [(0, (.k (.int .i64 2)))]), none, none⟩,
  ⟨(.call true 22 [(.loc 0)]), none, none⟩,
  ⟨(.call false 11 [(.k (.slice none 0 0)), (.loc 0)]), none, none⟩,
  ⟨(.mov (.loc 0)), none, none⟩,
  ⟨(.extract (.loc 0) 0), none, none⟩,
  ⟨(.extract (.loc 1) 1), none, none⟩,
  ⟨(.mov (.loc 1)), (some 1), none⟩,
  ⟨(.mov (.loc 1)), (some 2), none⟩]
def c8_2 : List CO := [⟨(.mov (.var 1)), none, none⟩,
  ⟨(.bslice 1 [(.int .i64 0)] 1 [(0, (.k (.int .i64 0)))]), none, none⟩,
  ⟨(.call true 22 [(.loc 0)]), none, none⟩,
  ⟨(.call false 11 [(.loc 2), (.loc 0)]), none, none⟩,
  ⟨(.mov (.loc 0)), none, none⟩,
  ⟨(.extract (.loc 0) 0), none, none⟩,
  ⟨(.extract (.loc 1) 1), none, none⟩,
  ⟨(.mov (.loc 1)), (some 1), none⟩,
  ⟨(.mov (.loc 1)), (some 3), none⟩]
def c8_3 : List CO := [⟨(.mov (.var 1)), none, none⟩,
  ⟨(.bslice 1 [(.int .i64 0)] 2 [(0, (.k (.int .i64 1))), (1, (.k (.int .i64 2)))]), none, none⟩,
  ⟨(.call true 22 [(.loc 0)]), none, none⟩,
  ⟨(.call false 11 [(.loc 2), (.loc 0)]), none, none⟩,
  ⟨(.mov (.loc 0)), none, none⟩,
  ⟨(.extract (.loc 0) 0), none, none⟩,
  ⟨(.extract (.loc 1) 1), none, none⟩,
  ⟨(.mov (.loc 1)), (some 1), none⟩,
  ⟨(.mov (.loc 1)), (some 4), none⟩]
def c8_4 : List CO := [⟨(.mov (.var 1)), none, none⟩,
  ⟨(.bslice 1 [(.int .i64 0)] 1 [(0, (.k (.int .i64 0)))]), none, none⟩,
  ⟨(.call true 22 [(.loc 0)]), none, none⟩,
  ⟨(.call false 11 [(.loc 2), (.loc 0)]), none, none⟩,
  ⟨(.mov (.loc 0)), none, none⟩,
  ⟨(.extract (.loc 0) 0), none, none⟩,
  ⟨(.extract (.loc 1) 1), none, none⟩,
  ⟨(.mov (.loc 1)), none, none⟩,
  ⟨(.mov (.loc 1)), (some 5), none⟩]
def c8_5 : List CO := [⟨(.mov (.var 2)), none, none⟩,
  ⟨(.bin .eql (.loc 0) (.k (.int .i64 0))), none, none⟩,
  ⟨(.mov (.loc 0)), none, none⟩,
  ⟨(.mov (.var 3)), none, (some ((.loc 0), true))⟩,
  ⟨(.bin .eql (.loc 0) (.k (.int .i64 0))), none, (some ((.loc 1), true))⟩,
  ⟨(.pick (.loc 2) (.loc 0) (.k (.bool false))), none, none⟩,
  ⟨(.mov (.loc 0)), none, none⟩,
  ⟨(.mov (.var 4)), none, (some ((.loc 0), true))⟩,
  ⟨(.bin .eql (.loc 0) (.k (.int .i64 0))), none, (some ((.loc 1), true))⟩,
  ⟨(.pick (.loc 2) (.loc 0) (.k (.bool false))), none, none⟩,
  ⟨(.mov (.loc 0)), none, none⟩,
  ⟨(.mov (.var 5)), none, (some ((.loc 0), true))⟩,
  ⟨(.bin .eql (.loc 0) (.k (.int .i64 1))), none, (some ((.loc 1), true))⟩,
  ⟨(.pick (.loc 2) (.loc 0) (.k (.bool false))), none, none⟩,
  ⟨(.mov (.loc 0)), none, none⟩,
  ⟨(.mov (.var 1)), none, (some ((.loc 0), true))⟩,
  ⟨(.bslice 1 [(.int .i64 0)] 1 [(0, (.k (.int .i64 0)))]), none, (some ((.loc 1), true))⟩,
  ⟨(.call true 22 [(.loc 0)]), none, (some ((.loc 2), true))⟩,
  ⟨(.bslice 1 [(.int .i64 0)] 2 [(0, (.k (.int .i64 1))), (1, (.k (.int .i64 2)))]), none, (some ((.loc 3), true))⟩,
  ⟨(.call true 22 [(.loc 0)]), none, (some ((.loc 4), true))⟩,
  ⟨(.bslice 1 [(.int .i64 0)] 1 [(0, (.k (.int .i64 2)))]), none, (some ((.loc 5), true))⟩,
  ⟨(.call true 22 [(.loc 0)]), none, (some ((.loc 6), true))⟩,
  ⟨(.bslice 4 [(.slice none 0 0), (.int .i64 0), (.slice none 0 0), (.int .i64 0)] 3 [(0, (.loc 4)), (1, (.loc 2)), (2, (.loc 0))]), none, (some ((.loc 7), true))⟩,
  ⟨(.call false 13 [(.loc 7), (.loc 0)]), none, (some ((.loc 8), true))⟩,
  ⟨(.pick (.loc 9) (.loc 0) (.k (.bool false))), none, none⟩,
  ⟨(.mov (.loc 0)), none, none⟩,
  ⟨(.mov (.var 1)), none, (some ((.loc 0), true))⟩,
  ⟨(.bslice 1 [(.int .i64 0)] 2 [(0, (.k (.int .i64 1))), (1, (.k (.int .i64 3)))]), none, (some ((.loc 1), true))⟩,
  ⟨(.bslice 1 [(.slice none 0 0)] 1 [(0, (.loc 0))]), none, (some ((.loc 2), true))⟩,
  ⟨(.call true 15 [(.loc 2), (.loc 0)]), none, (some ((.loc 3), true))⟩,
  ⟨(.bin .eql (.loc 0) (.k (.int .i64 2))), none, (some ((.loc 4), true))⟩,
  ⟨(.pick (.loc 5) (.loc 0) (.k (.bool false))), none, none⟩,
  ⟨(.mov (.loc 0)), none, none⟩,
  ⟨(.mov (.var 1)), none, (some ((.loc 0), true))⟩,
  ⟨(.bslice 1 [(.int .i64 0)] 1 [(0, (.k (.int .i64 1)))]), none, (some ((.loc 1), true))⟩,
  ⟨(.bslice 1 [(.slice none 0 0)] 1 [(0, (.loc 0))]), none, (some ((.loc 2), true))⟩,
  ⟨(.call true 15 [(.loc 2), (.loc 0)]), none, (some ((.loc 3), true))⟩,
  ⟨(.bin .eql (.loc 0) (.k (.int .i64 1))), none, (some ((.loc 4), true))⟩,
  ⟨(.pick (.loc 5) (.loc 0) (.k (.bool false))), none, none⟩,
  ⟨(.mov (.loc 0)), none, none⟩,
  ⟨(.mov (.var 1)), none, (some ((.loc 0), true))⟩,
  ⟨(.bslice 1 [(.int .i64 0)] 1 [(0, (.k (.int .i64 2)))]), none, (some ((.loc 1), true))⟩,
  ⟨(.bslice 1 [(.slice none 0 0)] 1 [(0, (.loc 0))]), none, (some ((.loc 2), true))⟩,
  ⟨(.call true 15 [(.loc 2), (.loc 0)]), none, (some ((.loc 3), true))⟩,
  ⟨(.bin .eql (.loc 0) (.k (.int .i64 2))), none, (some ((.loc 4), true))⟩,
  ⟨(.pick (.loc 5) (.loc 0) (.k (.bool false))), none, none⟩,
  ⟨(.mov (.loc 0)), none, none⟩,
  ⟨(.mov (.var 1)), none, (some ((.loc 0), true))⟩,
  ⟨(.call true 15 [(.loc 0), (.k (.slice none 0 0))]), none, (some ((.loc 1), true))⟩,
  ⟨(.bin .eql (.loc 0) (.k (.int .i64 3))), none, (some ((.loc 2), true))⟩,
  ⟨(.pick (.loc 3) (.loc 0) (.k (.bool false))), none, none⟩,
  ⟨(.mov (.loc 0)), (some 0), none⟩]
def c8 : CFun := ⟨0, 6, (.seq (.region [] [] c8_0) (.seq (.region [] [] c8_1) (.seq (.region [.v 1] [] c8_2) (.seq (.region [.v 1] [] c8_3) (.seq (.region [.v 1] [] c8_4) (.seq (.region [.v 1] [] c8_5) .ret)))))), [.var 0]⟩
theorem ok8 : CodeOk Try.prog T 8 c8 := ⟨⟨Try.f8, Hints.of [(2, [.v 1]), (3, [.v 1]), (4, [.v 1]), (5, [.v 1])] [] [], [0, 1, 2, 3, 4, 6], Try.func8, by kernel_rfl, by kernel_rfl⟩⟩

/-! spinney/spinneylaw20.big -/
def c9_0 : List CO := [⟨(.mov (.k (.bool false))), (some 2), none⟩]
def c9_1 : List CO := [⟨(.mov (.var 0)), none, none⟩,
  ⟨(.len .slice (.loc 0)), none, none⟩,
  ⟨(.bin .gtr (.loc 0) (.k (.int .i64 200))), none, none⟩,
  ⟨(.mov (.loc 0)), none, none⟩,
  ⟨(.mov (.var 1)), none, (some ((.loc 0), false))⟩,
  ⟨(.len .slice (.loc 0)), none, (some ((.loc 1), false))⟩,
  ⟨(.bin .gtr (.loc 0) (.k (.int .i64 200))), none, (some ((.loc 2), false))⟩,
  ⟨(.pick (.loc 3) (.k (.bool true)) (.loc 0)), (some 5), none⟩]
def c9_2 : List CO := [⟨(.mov (.k (.bool true))), (some 2), none⟩]
def c9_3 : List CO := [⟨(.mov (.var 0)), (some 6), none⟩,
  ⟨(.len .slice (.var 6)), (some 7), none⟩,
  ⟨(.mov (.k (.int .i64 0))), (some 8), none⟩]
def c9_4 : List CO := [⟨(.bin .lss (.var 8) (.var 7)), (some 9), none⟩]
def c9_5 : List CO := [⟨(.ia 4 (.var 6) (.var 8)), none, none⟩,
  ⟨(.load true 4 (.loc 0)), none, none⟩,
  ⟨(.box 29 (.k (.agg #[(.slice none 0 0), (.int .i64 0), (.slice none 0 0), (.int .i64 0)]))), (some 3), none⟩,
  ⟨(.store 4 (.var 3) (.loc 1)), none, none⟩]
def c9_6 : List CO := [⟨(.fa 0 (.var 3)), none, none⟩,
  ⟨(.load false 1 (.loc 0)), none, none⟩,
  ⟨(.len .slice (.loc 0)), none, none⟩,
  ⟨(.bin .gtr (.loc 0) (.k (.int .i64 100))), none, none⟩,
  ⟨(.mov (.loc 0)), none, none⟩,
  ⟨(.fa 1 (.var 3)), none, (some ((.loc 0), false))⟩,
  ⟨(.fa 1 (.loc 0)), none, (some ((.loc 1), false))⟩,
  ⟨(.load false 1 (.loc 0)), none, (some ((.loc 2), false))⟩,
  ⟨(.len .slice (.loc 0)), none, (some ((.loc 3), false))⟩,
  ⟨(.bin .gtr (.loc 0) (.k (.int .i64 0))), none, (some ((.loc 4), false))⟩,
  ⟨(.pick (.loc 5) (.k (.bool true)) (.loc 0)), (some 10), none⟩]
def c9_7 : List CO := [⟨(.mov (.k (.bool true))), (some 2), none⟩]
def c9_8 : List CO := [⟨(.bin .add (.var 8) (.k (.int .i64 1))), none, none⟩,
  ⟨(.mov (.loc 0)), (some 8), none⟩]
def c9_9 : CC := (.seq (.region [] [] c9_4) (.seq (.cond (.var 9) .skip (.exit 0)) (.seq (.block 1 (.seq (.region [] [] c9_5) (.seq (.region [] [] c9_6) (.cond (.var 10) (.seq (.region [] [] c9_7) .ret) .skip)))) (.region [] [] c9_8))))
def c9_10 : List CO := [⟨(.mov (.var 1)), (some 11), none⟩,
  ⟨(.len .slice (.var 11)), (some 12), none⟩,
  ⟨(.mov (.k (.int .i64 0))), (some 13), none⟩]
def c9_11 : List CO := [⟨(.bin .lss (.var 13) (.var 12)), (some 14), none⟩]
def c9_12 : List CO := [⟨(.ia 1 (.var 11) (.var 13)), none, none⟩,
  ⟨(.load false 1 (.loc 0)), none, none⟩,
  ⟨(.mov (.loc 0)), (some 4), none⟩]
def c9_13 : List CO := [⟨(.mov (.var 4)), none, none⟩,
  ⟨(.len .slice (.loc 0)), none, none⟩,
  ⟨(.bin .gtr (.loc 0) (.k (.int .i64 100))), (some 15), none⟩]
def c9_14 : List CO := [⟨(.mov (.k (.bool true))), (some 2), none⟩]
def c9_15 : List CO := [⟨(.bin .add (.var 13) (.k (.int .i64 1))), none, none⟩,
  ⟨(.mov (.loc 0)), (some 13), none⟩]
def c9_16 : CC := (.seq (.region [] [] c9_11) (.seq (.cond (.var 14) .skip (.exit 2)) (.seq (.block 3 (.seq (.region [] [] c9_12) (.seq (.region [] [] c9_13) (.cond (.var 15) (.seq (.region [] [] c9_14) .ret) .skip)))) (.region [] [] c9_15))))
def c9_17 : List CO := [⟨(.mov (.k (.bool false))), (some 2), none⟩]
def c9 : CFun := ⟨2, 16, (.seq (.region [] [] c9_0) (.seq (.seq (.region [] [] c9_1) (.cond (.var 5) (.seq (.region [] [] c9_2) .ret) .skip)) (.seq (.seq (.region [] [] c9_3) (.block 0 (.loop [false, true, false, false, false, false, true, true, true, false, false, false, false, false, false, false] [] c9_9))) (.seq (.seq (.region [] [] c9_10) (.block 2 (.loop [false, false, false, false, false, false, false, false, false, false, false, true, true, true, false, false] [] c9_16))) (.seq (.region [] [] c9_17) .ret))))), [.var 2]⟩
theorem ok9 : CodeOk Try.prog T 9 c9 := ⟨⟨Try.f9, Hints.of [] [] [(0, [false, true, false, false, false, false, true, true, true, false, false, false, false, false, false, false], []), (2, [false, false, false, false, false, false, false, false, false, false, false, true, true, true, false, false], [])], [0, 1, 4, 6, 8, 16, 17, 18, 19, 20, 33, 35, 36, 37, 38, 43], Try.func9, by kernel_rfl, by kernel_rfl⟩⟩

/-! spinney/spinneyref20.Ordered -/
def c10_0 : List CO := [⟨(.mov (.k (.bool false))), (some 1), none⟩]
def c10_1 : List CO := [⟨(.mov (.k (.int .i64 1))), (some 2), none⟩]
def c10_2 : List CO := [⟨(.mov (.var 2)), none, none⟩,
  ⟨(.mov (.var 0)), none, none⟩,
  ⟨(.len .slice (.loc 0)), none, none⟩,
  ⟨(.bin .lss (.loc 2) (.loc 0)), (some 3), none⟩]
def c10_3 : List CO := [⟨(.mov (.var 0)), none, none⟩,
  ⟨(.mov (.var 2)), none, none⟩,
  ⟨(.bin .sub (.loc 0) (.k (.int .i64 1))), none, none⟩,
  ⟨(.ia 4 (.loc 2) (.loc 0)), none, none⟩,
  ⟨(.fa 0 (.loc 0)), none, none⟩,
  ⟨(.load false 1 (.loc 0)), none, none⟩,
  ⟨(.mov (.var 0)), none, none⟩,
  ⟨(.mov (.var 2)), none, none⟩,
  ⟨(.ia 4 (.loc 1) (.loc 0)), none, none⟩,
  ⟨(.fa 0 (.loc 0)), none, none⟩,
  ⟨(.load false 1 (.loc 0)), none, none⟩,
  ⟨(.call true 14 [(.loc 5), (.loc 0)]), none, none⟩,
  ⟨(.bin .geq (.loc 0) (.k (.int .i64 0))), (some 4), none⟩]
def c10_4 : List CO := [⟨(.mov (.k (.bool false))), (some 1), none⟩]
def c10_5 : List CO := [⟨(.mov (.var 2)), none, none⟩,
  ⟨(.bin .add (.loc 0) (.k (.int .i64 1))), none, none⟩,
  ⟨(.mov (.loc 0)), (some 2), none⟩]
def c10_6 : CC := (.seq (.seq (.region [] [] c10_2) (.cond (.var 3) .skip (.exit 0))) (.seq (.block 1 (.seq (.region [] [] c10_3) (.cond (.var 4) (.seq (.region [] [] c10_4) .ret) .skip))) (.region [] [] c10_5)))
def c10_7 : List CO := [⟨(.mov (.k (.bool true))), (some 1), none⟩]
def c10 : CFun := ⟨1, 5, (.seq (.region [] [] c10_0) (.seq (.seq (.region [] [] c10_1) (.block 0 (.loop [true, false, true, false, false] [] c10_6))) (.seq (.region [] [] c10_7) .ret))), [.var 1]⟩
theorem ok10 : CodeOk Try.prog T 10 c10 := ⟨⟨Try.f10, Hints.of [] [] [(0, [true, false, true, false, false], [])], [0, 2, 3, 7, 22], Try.func10, by kernel_rfl, by kernel_rfl⟩⟩

/-! spinney/log.Put -/
def c11_0 : List CO := [⟨(.box 22 (.var 0)), (some 2), none⟩,
  ⟨(.box 29 (.var 1)), (some 3), none⟩,
  ⟨(.mov (.k (.slice none 0 0))), (some 4), none⟩,
  ⟨(.mov (.k (.int .i64 0))), (some 5), none⟩]
def c11_1 : List CO := [⟨(.load false 1 (.var 2)), none, none⟩,
  ⟨(.len .slice (.loc 0)), none, none⟩,
  ⟨(.mkfn (.func 24) [] [(.var 2), (.var 3)]), none, none⟩,
  ⟨(.call false 23 [(.loc 1), (.loc 0)]), none, none⟩,
  ⟨(.mov (.loc 0)), (some 6), none⟩]
def c11_2 : List CO := [⟨(.mov (.var 6)), none, none⟩,
  ⟨(.load false 1 (.var 2)), none, none⟩,
  ⟨(.len .slice (.loc 0)), none, none⟩,
  ⟨(.bin .lss (.loc 2) (.loc 0)), none, none⟩,
  ⟨(.mov (.loc 0)), none, none⟩,
  ⟨(.load false 1 (.var 2)), none, (some ((.loc 0), true))⟩,
  ⟨(.mov (.var 6)), none, (some ((.loc 1), true))⟩,
  ⟨(.ia 4 (.loc 1) (.loc 0)), none, (some ((.loc 2), true))⟩,
  ⟨(.fa 0 (.loc 0)), none, (some ((.loc 3), true))⟩,
  ⟨(.load false 1 (.loc 0)), none, (some ((.loc 4), true))⟩,
  ⟨(.fa 0 (.var 3)), none, (some ((.loc 5), true))⟩,
  ⟨(.load false 1 (.loc 0)), none, (some ((.loc 6), true))⟩,
  ⟨(.call true 25 [(.loc 2), (.loc 0)]), none, (some ((.loc 7), true))⟩,
  ⟨(.bin .eql (.loc 0) (.k (.int .i64 0))), none, (some ((.loc 8), true))⟩,
  ⟨(.pick (.loc 9) (.loc 0) (.k (.bool false))), (some 7), none⟩]
def c11_3 : List CO := [⟨(.mov (.k (.slice none 0 0))), (some 4), none⟩,
  ⟨(.mov (.k (.int .i64 1))), (some 5), none⟩]
def c11_4 : List CO := [⟨(.load false 1 (.var 2)), none, none⟩,
  ⟨(.call false 27 [(.loc 0)]), none, none⟩,
  ⟨(.mov (.var 6)), none, none⟩,
  ⟨(.load true 4 (.var 3)), none, none⟩,
  ⟨(.bslice 4 [(.slice none 0 0), (.int .i64 0), (.slice none 0 0), (.int .i64 0)] 1 [(0, (.loc 0))]), none, none⟩,
  ⟨(.call false 26 [(.loc 3), (.loc 2), (.loc 0)]), none, none⟩,
  ⟨(.mov (.loc 0)), (some 4), none⟩,
  ⟨(.mov (.k (.int .i64 0))), (some 5), none⟩]
def c11 : CFun := ⟨2, 8, (.seq (.region [] [] c11_0) (.seq (.region [] [] c11_1) (.seq (.seq (.region [] [] c11_2) (.cond (.var 7) (.seq (.region [] [] c11_3) .ret) .skip)) (.seq (.region [] [] c11_4) .ret)))), [.var 4, .var 5]⟩
theorem ok11 : CodeOk Try.prog T 11 c11 := ⟨⟨Try.f11, Hints.of [] [] [], [0, 1, 2, 3, 4, 5, 6, 25], Try.func11, by kernel_rfl, by kernel_rfl⟩⟩

/-! spinney/spinneyref20.Put -/
def c12_0 : List CO := [⟨(.box 29 (.var 1)), (some 2), none⟩,
  ⟨(.mov (.k (.slice none 0 0))), (some 3), none⟩,
  ⟨(.mov (.k (.int .i64 0))), (some 4), none⟩]
def c12_1 : List CO := [⟨(.mov (.var 0)), (some 9), none⟩,
  ⟨(.len .slice (.var 9)), (some 10), none⟩,
  ⟨(.mov (.k (.int .i64 0))), (some 11), none⟩]
def c12_2 : List CO := [⟨(.bin .lss (.var 11) (.var 10)), (some 12), none⟩]
def c12_3 : List CO := [⟨(.ia 4 (.var 9) (.var 11)), none, none⟩,
  ⟨(.load true 4 (.loc 0)), none, none⟩,
  ⟨(.box 29 (.k (.agg #[(.slice none 0 0), (.int .i64 0), (.slice none 0 0), (.int .i64 0)]))), (some 5), none⟩,
  ⟨(.store 4 (.var 5) (.loc 1)), none, none⟩]
def c12_4 : List CO := [⟨(.fa 0 (.var 5)), none, none⟩,
  ⟨(.load false 1 (.loc 0)), none, none⟩,
  ⟨(.fa 0 (.var 2)), none, none⟩,
  ⟨(.load false 1 (.loc 0)), none, none⟩,
  ⟨(.call true 14 [(.loc 2), (.loc 0)]), none, none⟩,
  ⟨(.bin .eql (.loc 0) (.k (.int .i64 0))), (some 13), none⟩]
def c12_5 : List CO := [⟨(.mov (.k (.slice none 0 0))), (some 3), none⟩,
  ⟨(.mov (.k (.int .i64 1))), (some 4), none⟩]
def c12_6 : List CO := [⟨(.bin .add (.var 11) (.k (.int .i64 1))), none, none⟩,
  ⟨(.mov (.loc 0)), (some 11), none⟩]
def c12_7 : CC := (.seq (.region [] [] c12_2) (.seq (.cond (.var 12) .skip (.exit 0)) (.seq (.block 1 (.seq (.region [] [] c12_3) (.seq (.region [] [] c12_4) (.cond (.var 13) (.seq (.region [] [] c12_5) .ret) .skip)))) (.region [] [] c12_6))))
def c12_8 : List CO := [⟨(.mov (.k (.slice none 0 0))), (some 6), none⟩]
def c12_9 : List CO := [⟨(.mov (.var 0)), (some 14), none⟩,
  ⟨(.len .slice (.var 14)), (some 15), none⟩,
  ⟨(.mov (.k (.int .i64 0))), (some 16), none⟩]
def c12_10 : List CO := [⟨(.bin .lss (.var 16) (.var 15)), (some 17), none⟩]
def c12_11 : List CO := [⟨(.ia 4 (.var 14) (.var 16)), none, none⟩,
  ⟨(.load true 4 (.loc 0)), none, none⟩,
  ⟨(.box 29 (.k (.agg #[(.slice none 0 0), (.int .i64 0), (.slice none 0 0), (.int .i64 0)]))), (some 7), none⟩,
  ⟨(.store 4 (.var 7) (.loc 1)), none, none⟩]
def c12_12 : List CO := [⟨(.fa 0 (.var 7)), none, none⟩,
  ⟨(.load false 1 (.loc 0)), none, none⟩,
  ⟨(.fa 0 (.var 2)), none, none⟩,
  ⟨(.load false 1 (.loc 0)), none, none⟩,
  ⟨(.call true 14 [(.loc 2), (.loc 0)]), none, none⟩,
  ⟨(.bin .lss (.loc 0) (.k (.int .i64 0))), (some 18), none⟩]
def c12_13 : List CO := [⟨(.mov (.var 6)), none, none⟩,
  ⟨(.load true 4 (.var 7)), none, none⟩,
  ⟨(.bslice 4 [(.slice none 0 0), (.int .i64 0), (.slice none 0 0), (.int .i64 0)] 1 [(0, (.loc 0))]), none, none⟩,
  ⟨(.append 29 4 64 (.loc 2) (.loc 0)), none, none⟩,
  ⟨(.mov (.loc 0)), (some 6), none⟩]
def c12_14 : List CO := [⟨(.bin .add (.var 16) (.k (.int .i64 1))), none, none⟩,
  ⟨(.mov (.loc 0)), (some 16), none⟩]
def c12_15 : CC := (.seq (.region [] [] c12_10) (.seq (.cond (.var 17) .skip (.exit 2)) (.seq (.block 3 (.seq (.region [] [] c12_11) (.seq (.region [] [] c12_12) (.cond (.var 18) (.region [] [] c12_13) .skip)))) (.region [] [] c12_14))))
def c12_16 : List CO := [⟨(.mov (.var 6)), none, none⟩,
  ⟨(.load true 4 (.var 2)), none, none⟩,
  ⟨(.bslice 4 [(.slice none 0 0), (.int .i64 0), (.slice none 0 0), (.int .i64 0)] 1 [(0, (.loc 0))]), none, none⟩,
  ⟨(.append 29 4 64 (.loc 2) (.loc 0)), none, none⟩,
  ⟨(.mov (.loc 0)), (some 6), none⟩]
def c12_17 : List CO := [⟨(.mov (.var 0)), (some 19), none⟩,
  ⟨(.len .slice (.var 19)), (some 20), none⟩,
  ⟨(.mov (.k (.int .i64 0))), (some 21), none⟩]
def c12_18 : List CO := [⟨(.bin .lss (.var 21) (.var 20)), (some 22), none⟩]
def c12_19 : List CO := [⟨(.ia 4 (.var 19) (.var 21)), none, none⟩,
  ⟨(.load true 4 (.loc 0)), none, none⟩,
  ⟨(.box 29 (.k (.agg #[(.slice none 0 0), (.int .i64 0), (.slice none 0 0), (.int .i64 0)]))), (some 8), none⟩,
  ⟨(.store 4 (.var 8) (.loc 1)), none, none⟩]
def c12_20 : List CO := [⟨(.fa 0 (.var 8)), none, none⟩,
  ⟨(.load false 1 (.loc 0)), none, none⟩,
  ⟨(.fa 0 (.var 2)), none, none⟩,
  ⟨(.load false 1 (.loc 0)), none, none⟩,
  ⟨(.call true 14 [(.loc 2), (.loc 0)]), none, none⟩,
  ⟨(.bin .gtr (.loc 0) (.k (.int .i64 0))), (some 23), none⟩]
def c12_21 : List CO := [⟨(.mov (.var 6)), none, none⟩,
  ⟨(.load true 4 (.var 8)), none, none⟩,
  ⟨(.bslice 4 [(.slice none 0 0), (.int .i64 0), (.slice none 0 0), (.int .i64 0)] 1 [(0, (.loc 0))]), none, none⟩,
  ⟨(.append 29 4 64 (.loc 2) (.loc 0)), none, none⟩,
  ⟨(.mov (.loc 0)), (some 6), none⟩]
def c12_22 : List CO := [⟨(.bin .add (.var 21) (.k (.int .i64 1))), none, none⟩,
  ⟨(.mov (.loc 0)), (some 21), none⟩]
def c12_23 : CC := (.seq (.region [] [] c12_18) (.seq (.cond (.var 22) .skip (.exit 4)) (.seq (.block 5 (.seq (.region [] [] c12_19) (.seq (.region [] [] c12_20) (.cond (.var 23) (.region [] [] c12_21) .skip)))) (.region [] [] c12_22))))
def c12_24 : List CO := [⟨(.mov (.var 6)), none, none⟩,
  ⟨(.mov (.loc 0)), (some 3), none⟩,
  ⟨(.mov (.k (.int .i64 0))), (some 4), none⟩]
def c12 : CFun := ⟨2, 24, (.seq (.region [] [] c12_0) (.seq (.seq (.region [] [] c12_1) (.block 0 (.loop [true, false, true, false, false, false, false, false, false, true, true, true, false, false, false, false, false, false, false, false, false, false, false, false] [] c12_7))) (.seq (.region [] [] c12_8) (.seq (.seq (.region [] [] c12_9) (.block 2 (.loop [true, false, true, false, false, false, true, false, false, false, false, false, false, false, true, true, true, false, false, false, false, false, false, false] [] c12_15))) (.seq (.region [] [] c12_16) (.seq (.seq (.region [] [] c12_17) (.block 4 (.loop [false, false, true, false, false, false, true, false, false, false, false, false, false, false, false, false, false, false, false, true, true, true, false, false] [] c12_23))) (.seq (.region [] [] c12_24) .ret))))))), [.var 3, .var 4]⟩
theorem ok12 : CodeOk Try.prog T 12 c12 := ⟨⟨Try.f12, Hints.of [] [] [(0, [true, false, true, false, false, false, false, false, false, true, true, true, false, false, false, false, false, false, false, false, false, false, false, false], []), (2, [true, false, true, false, false, false, true, false, false, false, false, false, false, false, true, true, true, false, false, false, false, false, false, false], []), (4, [false, false, true, false, false, false, true, false, false, false, false, false, false, false, false, false, false, false, false, true, true, true, false, false], [])], [0, 1, 3, 4, 5, 7, 8, 10, 12, 13, 14, 15, 16, 24, 26, 27, 28, 29, 37, 47, 48, 49, 50, 58], Try.func12, by kernel_rfl, by kernel_rfl⟩⟩

/-! spinney/spinneyref20.Same -/
def c13_0 : List CO := [⟨(.mov (.k (.bool false))), (some 2), none⟩]
def c13_1 : List CO := [⟨(.mov (.var 0)), none, none⟩,
  ⟨(.len .slice (.loc 0)), none, none⟩,
  ⟨(.mov (.var 1)), none, none⟩,
  ⟨(.len .slice (.loc 0)), none, none⟩,
  ⟨(.bin .neq (.loc 2) (.loc 0)), (some 4), none⟩]
def c13_2 : List CO := [⟨(.mov (.k (.bool false))), (some 2), none⟩]
def c13_3 : List CO := [⟨(.mov (.var 0)), none, none⟩,
  ⟨(.len .slice (.loc 0)), (some 5), none⟩,
  ⟨(.mov (.k (.int .i64 0))), (some 6), none⟩]
def c13_4 : List CO := [⟨(.bin .lss (.var 6) (.var 5)), (some 7), none⟩]
def c13_5 : List CO := [⟨(.mov (.var 6)), none, none⟩,
  ⟨(.mov (.loc 0)), (some 3), none⟩]
def c13_6 : List CO := [⟨(.mov (.var 0)), none, none⟩,
  ⟨(.mov (.var 3)), none, none⟩,
  ⟨(.ia 4 (.loc 1) (.loc 0)), none, none⟩,
  ⟨(.fa 0 (.loc 0)), none, none⟩,
  ⟨(.load false 1 (.loc 0)), none, none⟩,
  ⟨(.mov (.var 1)), none, none⟩,
  ⟨(.mov (.var 3)), none, none⟩,
  ⟨(.ia 4 (.loc 1) (.loc 0)), none, none⟩,
  ⟨(.fa 0 (.loc 0)), none, none⟩,
  ⟨(.load false 1 (.loc 0)), none, none⟩,
  ⟨(.call true 14 [(.loc 5), (.loc 0)]), none, none⟩,
  ⟨(.bin .neq (.loc 0) (.k (.int .i64 0))), none, none⟩,
  ⟨(.mov (.loc 0)), none, none⟩,
  ⟨(.mov (.var 0)), none, (some ((.loc 0), false))⟩,
  ⟨(.mov (.var 3)), none, (some ((.loc 1), false))⟩,
  ⟨(.ia 4 (.loc 1) (.loc 0)), none, (some ((.loc 2), false))⟩,
  ⟨(.fa 1 (.loc 0)), none, (some ((.loc 3), false))⟩,
  ⟨(.load true 3 (.loc 0)), none, (some ((.loc 4), false))⟩,
  ⟨(.mov (.var 1)), none, (some ((.loc 5), false))⟩,
  ⟨(.mov (.var 3)), none, (some ((.loc 6), false))⟩,
  ⟨(.ia 4 (.loc 1) (.loc 0)), none, (some ((.loc 7), false))⟩,
  ⟨(.fa 1 (.loc 0)), none, (some ((.loc 8), false))⟩,
  ⟨(.load true 3 (.loc 0)), none, (some ((.loc 9), false))⟩,
  ⟨(.call true 28 [(.loc 5), (.loc 0)]), none, (some ((.loc 10), false))⟩,
  ⟨(.un .not (.loc 0)), none, (some ((.loc 11), false))⟩,
  ⟨(.pick (.loc 12) (.k (.bool true)) (.loc 0)), (some 8), none⟩]
def c13_7 : List CO := [⟨(.mov (.k (.bool false))), (some 2), none⟩]
def c13_8 : List CO := [⟨(.bin .add (.var 6) (.k (.int .i64 1))), none, none⟩,
  ⟨(.mov (.loc 0)), (some 6), none⟩]
def c13_9 : CC := (.seq (.region [] [] c13_4) (.seq (.cond (.var 7) .skip (.exit 0)) (.seq (.block 1 (.seq (.region [] [] c13_5) (.seq (.region [] [] c13_6) (.cond (.var 8) (.seq (.region [] [] c13_7) .ret) .skip)))) (.region [] [] c13_8))))
def c13_10 : List CO := [⟨(.mov (.k (.bool true))), (some 2), none⟩]
def c13 : CFun := ⟨2, 9, (.seq (.region [] [] c13_0) (.seq (.seq (.region [] [] c13_1) (.cond (.var 4) (.seq (.region [] [] c13_2) .ret) .skip)) (.seq (.seq (.region [] [] c13_3) (.block 0 (.loop [true, true, false, false, false, true, true, false, false] [] c13_9))) (.seq (.region [] [] c13_10) .ret)))), [.var 2]⟩
theorem ok13 : CodeOk Try.prog T 13 c13 := ⟨⟨Try.f13, Hints.of [] [] [(0, [true, true, false, false, false, true, true, false, false], [])], [0, 1, 4, 5, 10, 12, 13, 14, 41], Try.func13, by kernel_rfl, by kernel_rfl⟩⟩

/-! spinney/spinneyref19.Compare -/
def c14_0 : List CO := [⟨(.mov (.k (.int .i64 0))), (some 2), none⟩]
def c14_1 : List CO := [⟨(.mov (.var 0)), none, none⟩,
  ⟨(.len .slice (.loc 0)), none, none⟩,
  ⟨(.bin .eql (.loc 0) (.k (.int .i64 0))), none, none⟩,
  ⟨(.mov (.loc 0)), none, none⟩,
  ⟨(.mov (.var 1)), none, (some ((.loc 0), true))⟩,
  ⟨(.len .slice (.loc 0)), none, (some ((.loc 1), true))⟩,
  ⟨(.bin .eql (.loc 0) (.k (.int .i64 0))), none, (some ((.loc 2), true))⟩,
  ⟨(.pick (.loc 3) (.loc 0) (.k (.bool false))), none, none⟩,
  ⟨(.mov (.loc 0)), (some 3), none⟩]
def c14_2 : List CO := [⟨(.mov (.k (.int .i64 0))), (some 2), none⟩]
def c14_3 : List CO := [⟨(.mov (.var 0)), none, none⟩,
  ⟨(.len .slice (.loc 0)), none, none⟩,
  ⟨(.bin .eql (.loc 0) (.k (.int .i64 0))), none, none⟩,
  ⟨(.mov (.loc 0)), (some 4), none⟩]
def c14_4 : List CO := [⟨(.mov (.k (.int .i64 (-1)))), (some 2), none⟩]
def c14_5 : List CO := [⟨(.mov (.var 1)), none, none⟩,
  ⟨(.len .slice (.loc 0)), none, none⟩,
  ⟨(.bin .eql (.loc 0) (.k (.int .i64 0))), none, none⟩,
  ⟨(.mov (.loc 0)), (some 5), none⟩]
def c14_6 : List CO := [⟨(.mov (.k (.int .i64 1))), (some 2), none⟩]
def c14_7 : List CO := [⟨(.mov (.var 0)), none, none⟩,
  ⟨(.ia 1 (.loc 0) (.k (.int .i64 0))), none, none⟩,
  ⟨(.load false 1 (.loc 0)), none, none⟩,
  ⟨(.mov (.var 1)), none, none⟩,
  ⟨(.ia 1 (.loc 0) (.k (.int .i64 0))), none, none⟩,
  ⟨(.load false 1 (.loc 0)), none, none⟩,
  ⟨(.bin .lss (.loc 3) (.loc 0)), none, none⟩,
  ⟨(.mov (.loc 0)), (some 6), none⟩]
def c14_8 : List CO := [⟨(.mov (.k (.int .i64 (-1)))), (some 2), none⟩]
def c14_9 : List CO := [⟨(.mov (.var 0)), none, none⟩,
  ⟨(.ia 1 (.loc 0) (.k (.int .i64 0))), none, none⟩,
  ⟨(.load false 1 (.loc 0)), none, none⟩,
  ⟨(.mov (.var 1)), none, none⟩,
  ⟨(.ia 1 (.loc 0) (.k (.int .i64 0))), none, none⟩,
  ⟨(.load false 1 (.loc 0)), none, none⟩,
  ⟨(.bin .gtr (.loc 3) (.loc 0)), none, none⟩,
  ⟨(.mov (.loc 0)), (some 7), none⟩]
def c14_10 : List CO := [⟨(.mov (.k (.int .i64 1))), (some 2), none⟩]
def c14_11 : List CO := [⟨(.mov (.var 0)), none, none⟩,
  ⟨(.slice 1 (.loc 0) (some (.k (.int .i64 1))) none none), none, none⟩,
  ⟨(.mov (.var 1)), none, none⟩,
  ⟨(.slice 1 (.loc 0) (some (.k (.int .i64 1))) none none), none, none⟩,
  ⟨(.call true 14 [(.loc 2), (.loc 0)]), none, none⟩,
  ⟨(.mov (.loc 0)), (some 2), none⟩]
def c14 : CFun := ⟨2, 8, (.seq (.region [] [] c14_0) (.seq (.block 0 (.seq (.region [] [] c14_1) (.cond (.var 3) (.seq (.region [] [] c14_2) .ret) (.seq (.region [] [] c14_3) (.cond (.var 4) (.seq (.region [] [] c14_4) .ret) (.seq (.region [] [] c14_5) (.cond (.var 5) (.seq (.region [] [] c14_6) .ret) (.seq (.region [] [] c14_7) (.cond (.var 6) (.seq (.region [] [] c14_8) .ret) (.seq (.region [] [] c14_9) (.cond (.var 7) (.seq (.region [] [] c14_10) .ret) .skip))))))))))) (.seq (.region [] [] c14_11) .ret))), [.var 2]⟩
theorem ok14 : CodeOk Try.prog T 14 c14 := ⟨⟨Try.f14, Hints.of [] [] [], [0, 1, 4, 5, 14, 18, 22, 30], Try.func14, by kernel_rfl, by kernel_rfl⟩⟩

/-! spinney/log.Ready -/
def c15_0 : List CO := [⟨(.mov (.k (.int .i64 0))), (some 2), none⟩]
def c15_1 : List CO := [⟨(.mov (.var 1)), none, none⟩,
  ⟨(.len .slice (.loc 0)), none, none⟩,
  ⟨(.bin .eql (.loc 0) (.k (.int .i64 0))), (some 5), none⟩]
def c15_2 : List CO := [⟨(.mov (.var 0)), none, none⟩,
  ⟨(.len .slice (.loc 0)), none, none⟩,
  ⟨(.mov (.loc 0)), (some 2), none⟩]
def c15_3 : List CO := [⟨(.mov (.var 1)), none, none⟩,
  ⟨(.call false 29 [(.loc 0), (.fn 25)]), none, none⟩,
  ⟨(.box 23 (.k (.slice none 0 0))), (some 3), none⟩,
  ⟨(.store 1 (.var 3) (.loc 1)), none, none⟩]
def c15_4 : List CO := [⟨(.mov (.var 0)), none, none⟩,
  ⟨(.mkfn (.func 31) [] [(.var 3)]), none, none⟩,
  ⟨(.call false 30 [(.loc 1), (.loc 0)]), none, none⟩,
  ⟨(.mov (.loc 0)), (some 4), none⟩]
def c15_5 : List CO := [⟨(.mov (.var 4)), none, none⟩,
  ⟨(.bin .lss (.loc 0) (.k (.int .i64 0))), (some 6), none⟩]
def c15_6 : List CO := [⟨(.mov (.var 0)), none, none⟩,
  ⟨(.len .slice (.loc 0)), none, none⟩,
  ⟨(.mov (.loc 0)), (some 2), none⟩]
def c15_7 : List CO := [⟨(.mov (.var 4)), none, none⟩,
  ⟨(.mov (.loc 0)), (some 2), none⟩]
def c15 : CFun := ⟨2, 7, (.seq (.region [] [] c15_0) (.seq (.seq (.region [] [] c15_1) (.cond (.var 5) (.seq (.region [] [] c15_2) .ret) .skip)) (.seq (.region [] [] c15_3) (.seq (.region [] [] c15_4) (.seq (.seq (.region [] [] c15_5) (.cond (.var 6) (.seq (.region [] [] c15_6) .ret) .skip)) (.seq (.region [] [] c15_7) .ret)))))), [.var 2]⟩
theorem ok15 : CodeOk Try.prog T 15 c15 := ⟨⟨Try.f15, Hints.of [] [] [], [0, 1, 4, 5, 6, 9, 18], Try.func15, by kernel_rfl, by kernel_rfl⟩⟩

/-! spinney/log.Drop -/
def c16_0 : List CO := [⟨(.box 23 (.var 1)), (some 3), none⟩,
  ⟨(.box 3 (.var 2)), (some 4), none⟩,
  ⟨(.mov (.k (.slice none 0 0))), (some 5), none⟩]
def c16_1 : List CO := [⟨(.mov (.var 0)), none, none⟩,
  ⟨(.call false 27 [(.loc 0)]), none, none⟩,
  ⟨(.mkfn (.func 33) [] [(.var 3), (.var 4)]), none, none⟩,
  ⟨(.call false 32 [(.loc 1), (.loc 0)]), none, none⟩,
  ⟨(.mov (.loc 0)), (some 5), none⟩]
def c16 : CFun := ⟨3, 6, (.seq (.region [] [] c16_0) (.seq (.region [] [] c16_1) .ret)), [.var 5]⟩
theorem ok16 : CodeOk Try.prog T 16 c16 := ⟨⟨Try.f16, Hints.of [] [] [], [0, 1, 2, 4, 5, 6], Try.func16, by kernel_rfl, by kernel_rfl⟩⟩

/-! spinney/spinneyref20.Drop -/
def c17_0 : List CO := [⟨(.mov (.k (.slice none 0 0))), (some 3), none⟩]
def c17_1 : List CO := [⟨(.mov (.k (.slice none 0 0))), (some 4), none⟩]
def c17_2 : List CO := [⟨(.mov (.var 0)), (some 6), none⟩,
  ⟨(.len .slice (.var 6)), (some 7), none⟩,
  ⟨(.mov (.k (.int .i64 0))), (some 8), none⟩]
def c17_3 : List CO := [⟨(.bin .lss (.var 8) (.var 7)), (some 9), none⟩]
def c17_4 : List CO := [⟨(.ia 4 (.var 6) (.var 8)), none, none⟩,
  ⟨(.load true 4 (.loc 0)), none, none⟩,
  ⟨(.box 29 (.k (.agg #[(.slice none 0 0), (.int .i64 0), (.slice none 0 0), (.int .i64 0)]))), (some 5), none⟩,
  ⟨(.store 4 (.var 5) (.loc 1)), none, none⟩]
def c17_5 : List CO := [⟨(.fa 0 (.var 5)), none, none⟩,
  ⟨(.load false 1 (.loc 0)), none, none⟩,
  ⟨(.mov (.var 1)), none, none⟩,
  ⟨(.mov (.var 2)), none, none⟩,
  ⟨(.call true 35 [(.loc 2), (.loc 1), (.loc 0)]), none, none⟩,
  ⟨(.un .not (.loc 0)), (some 10), none⟩]
def c17_6 : List CO := [⟨(.mov (.var 4)), none, none⟩,
  ⟨(.load true 4 (.var 5)), none, none⟩,
  ⟨(.bslice 4 [(.slice none 0 0), (.int .i64 0), (.slice none 0 0), (.int .i64 0)] 1 [(0, (.loc 0))]), none, none⟩,
  ⟨(.append 29 4 64 (.loc 2) (.loc 0)), none, none⟩,
  ⟨(.mov (.loc 0)), (some 4), none⟩]
def c17_7 : List CO := [⟨(.bin .add (.var 8) (.k (.int .i64 1))), none, none⟩,
  ⟨(.mov (.loc 0)), (some 8), none⟩]
def c17_8 : CC := (.seq (.region [] [] c17_3) (.seq (.cond (.var 9) .skip (.exit 0)) (.seq (.block 1 (.seq (.region [] [] c17_4) (.seq (.region [] [] c17_5) (.cond (.var 10) (.region [] [] c17_6) .skip)))) (.region [] [] c17_7))))
def c17_9 : List CO := [⟨(.mov (.var 4)), none, none⟩,
  ⟨(.mov (.loc 0)), (some 3), none⟩]
def c17 : CFun := ⟨3, 11, (.seq (.region [] [] c17_0) (.seq (.region [] [] c17_1) (.seq (.seq (.region [] [] c17_2) (.block 0 (.loop [false, true, true, false, true, false, true, true, true, false, false] [] c17_8))) (.seq (.region [] [] c17_9) .ret)))), [.var 3]⟩
theorem ok17 : CodeOk Try.prog T 17 c17 := ⟨⟨Try.f17, Hints.of [] [] [(0, [false, true, true, false, true, false, true, true, true, false, false], [])], [0, 1, 2, 6, 7, 9, 10, 11, 12, 13, 21], Try.func17, by kernel_rfl, by kernel_rfl⟩⟩

/-! spinney/spinneyref20.Ready -/
def c18_0 : List CO := [⟨(.mov (.k (.int .i64 0))), (some 2), none⟩]
def c18_1 : List CO := [⟨(.mov (.var 1)), none, none⟩,
  ⟨(.len .slice (.loc 0)), none, none⟩,
  ⟨(.bin .eql (.loc 0) (.k (.int .i64 0))), (some 7), none⟩]
def c18_2 : List CO := [⟨(.mov (.var 0)), none, none⟩,
  ⟨(.len .slice (.loc 0)), none, none⟩,
  ⟨(.mov (.loc 0)), (some 2), none⟩]
def c18_3 : List CO := [⟨(.mov (.var 1)), none, none⟩,
  ⟨(.ia 1 (.loc 0) (.k (.int .i64 0))), none, none⟩,
  ⟨(.load false 1 (.loc 0)), none, none⟩,
  ⟨(.mov (.loc 0)), (some 3), none⟩]
def c18_4 : List CO := [⟨(.mov (.var 1)), (some 8), none⟩,
  ⟨(.len .slice (.var 8)), (some 9), none⟩,
  ⟨(.mov (.k (.int .i64 0))), (some 10), none⟩]
def c18_5 : List CO := [⟨(.bin .lss (.var 10) (.var 9)), (some 11), none⟩]
def c18_6 : List CO := [⟨(.ia 1 (.var 8) (.var 10)), none, none⟩,
  ⟨(.load false 1 (.loc 0)), none, none⟩,
  ⟨(.mov (.loc 0)), (some 4), none⟩]
def c18_7 : List CO := [⟨(.mov (.var 4)), none, none⟩,
  ⟨(.mov (.var 3)), none, none⟩,
  ⟨(.call true 14 [(.loc 1), (.loc 0)]), none, none⟩,
  ⟨(.bin .lss (.loc 0) (.k (.int .i64 0))), (some 12), none⟩]
def c18_8 : List CO := [⟨(.mov (.var 4)), none, none⟩,
  ⟨(.mov (.loc 0)), (some 3), none⟩]
def c18_9 : List CO := [⟨(.bin .add (.var 10) (.k (.int .i64 1))), none, none⟩,
  ⟨(.mov (.loc 0)), (some 10), none⟩]
def c18_10 : CC := (.seq (.region [] [] c18_5) (.seq (.cond (.var 11) .skip (.exit 0)) (.seq (.block 1 (.seq (.region [] [] c18_6) (.seq (.region [] [] c18_7) (.cond (.var 12) (.region [] [] c18_8) .skip)))) (.region [] [] c18_9))))
def c18_11 : List CO := [⟨(.mov (.var 0)), (some 13), none⟩,
  ⟨(.len .slice (.var 13)), (some 14), none⟩,
  ⟨(.mov (.k (.int .i64 0))), (some 15), none⟩]
def c18_12 : List CO := [⟨(.bin .lss (.var 15) (.var 14)), (some 16), none⟩]
def c18_13 : List CO := [⟨(.mov (.var 15)), none, none⟩,
  ⟨(.ia 4 (.var 13) (.var 15)), none, none⟩,
  ⟨(.load true 4 (.loc 0)), none, none⟩,
  ⟨(.box 29 (.k (.agg #[(.slice none 0 0), (.int .i64 0), (.slice none 0 0), (.int .i64 0)]))), (some 6), none⟩,
  ⟨(.mov (.loc 3)), (some 5), none⟩,
  ⟨(.store 4 (.var 6) (.loc 2)), none, none⟩]
def c18_14 : List CO := [⟨(.fa 0 (.var 6)), none, none⟩,
  ⟨(.load false 1 (.loc 0)), none, none⟩,
  ⟨(.mov (.var 3)), none, none⟩,
  ⟨(.call true 14 [(.loc 1), (.loc 0)]), none, none⟩,
  ⟨(.bin .geq (.loc 0) (.k (.int .i64 0))), (some 17), none⟩]
def c18_15 : List CO := [⟨(.mov (.var 5)), none, none⟩,
  ⟨(.mov (.loc 0)), (some 2), none⟩]
def c18_16 : List CO := [⟨(.bin .add (.var 15) (.k (.int .i64 1))), none, none⟩,
  ⟨(.mov (.loc 0)), (some 15), none⟩]
def c18_17 : CC := (.seq (.region [] [] c18_12) (.seq (.cond (.var 16) .skip (.exit 2)) (.seq (.block 3 (.seq (.region [] [] c18_13) (.seq (.region [] [] c18_14) (.cond (.var 17) (.seq (.region [] [] c18_15) .ret) .skip)))) (.region [] [] c18_16))))
def c18_18 : List CO := [⟨(.mov (.var 0)), none, none⟩,
  ⟨(.len .slice (.loc 0)), none, none⟩,
  ⟨(.mov (.loc 0)), (some 2), none⟩]
def c18 : CFun := ⟨2, 18, (.seq (.region [] [] c18_0) (.seq (.seq (.region [] [] c18_1) (.cond (.var 7) (.seq (.region [] [] c18_2) .ret) .skip)) (.seq (.region [] [] c18_3) (.seq (.seq (.region [] [] c18_4) (.block 0 (.loop [true, false, false, true, false, false, false, false, true, true, true, false, false, false, false, false, false, false] [] c18_10))) (.seq (.seq (.region [] [] c18_11) (.block 2 (.loop [true, false, false, true, false, false, false, false, false, false, false, false, false, true, true, true, false, false] [] c18_17))) (.seq (.region [] [] c18_18) .ret)))))), [.var 2]⟩
theorem ok18 : CodeOk Try.prog T 18 c18 := ⟨⟨Try.f18, Hints.of [] [] [(0, [true, false, false, true, false, false, false, false, true, true, true, false, false, false, false, false, false, false], []), (2, [true, false, false, true, false, false, false, false, false, false, false, false, false, true, true, true, false, false], [])], [0, 1, 4, 5, 7, 8, 9, 12, 18, 19, 20, 21, 27, 30, 31, 32, 33, 41], Try.func18, by kernel_rfl, by kernel_rfl⟩⟩

/-! spinney/spinneyref14.SameEvents -/
def c19_0 : List CO := [⟨(.mov (.k (.bool false))), (some 2), none⟩]
def c19_1 : List CO := [⟨(.mov (.var 0)), none, none⟩,
  ⟨(.len .slice (.loc 0)), none, none⟩,
  ⟨(.mov (.var 1)), none, none⟩,
  ⟨(.len .slice (.loc 0)), none, none⟩,
  ⟨(.bin .neq (.loc 2) (.loc 0)), (some 4), none⟩]
def c19_2 : List CO := [⟨(.mov (.k (.bool false))), (some 2), none⟩]
def c19_3 : List CO := [⟨(.mov (.var 0)), none, none⟩,
  ⟨(.len .slice (.loc 0)), (some 5), none⟩,
  ⟨(.mov (.k (.int .i64 0))), (some 6), none⟩]
def c19_4 : List CO := [⟨(.bin .lss (.var 6) (.var 5)), (some 7), none⟩]
def c19_5 : List CO := [⟨(.mov (.var 6)), none, none⟩,
  ⟨(.mov (.loc 0)), (some 3), none⟩]
def c19_6 : List CO := [⟨(.mov (.var 0)), none, none⟩,
  ⟨(.mov (.var 3)), none, none⟩,
  ⟨(.ia 3 (.loc 1) (.loc 0)), none, none⟩,
  ⟨(.load true 3 (.loc 0)), none, none⟩,
  ⟨(.mov (.var 1)), none, none⟩,
  ⟨(.mov (.var 3)), none, none⟩,
  ⟨(.ia 3 (.loc 1) (.loc 0)), none, none⟩,
  ⟨(.load true 3 (.loc 0)), none, none⟩,
  ⟨(.call true 28 [(.loc 4), (.loc 0)]), none, none⟩,
  ⟨(.un .not (.loc 0)), (some 8), none⟩]
def c19_7 : List CO := [⟨(.mov (.k (.bool false))), (some 2), none⟩]
def c19_8 : List CO := [⟨(.bin .add (.var 6) (.k (.int .i64 1))), none, none⟩,
  ⟨(.mov (.loc 0)), (some 6), none⟩]
def c19_9 : CC := (.seq (.region [] [] c19_4) (.seq (.cond (.var 7) .skip (.exit 0)) (.seq (.block 1 (.seq (.region [] [] c19_5) (.seq (.region [] [] c19_6) (.cond (.var 8) (.seq (.region [] [] c19_7) .ret) .skip)))) (.region [] [] c19_8))))
def c19_10 : List CO := [⟨(.mov (.k (.bool true))), (some 2), none⟩]
def c19 : CFun := ⟨2, 9, (.seq (.region [] [] c19_0) (.seq (.seq (.region [] [] c19_1) (.cond (.var 4) (.seq (.region [] [] c19_2) .ret) .skip)) (.seq (.seq (.region [] [] c19_3) (.block 0 (.loop [true, true, false, false, false, true, true, false, false] [] c19_9))) (.seq (.region [] [] c19_10) .ret)))), [.var 2]⟩
theorem ok19 : CodeOk Try.prog T 19 c19 := ⟨⟨Try.f19, Hints.of [] [] [(0, [true, true, false, false, false, true, true, false, false], [])], [0, 1, 4, 5, 10, 12, 13, 14, 25], Try.func19, by kernel_rfl, by kernel_rfl⟩⟩

/-! spinney/log.Events -/
def c20_0 : List CO := [⟨(.mov (.k (.slice none 0 0))), (some 1), none⟩]
def c20_1 : List CO := [⟨(.mov (.k (.slice none 0 0))), (some 2), none⟩]
def c20_2 : List CO := [⟨(.mov (.var 0)), (some 4), none⟩,
  ⟨(.len .slice (.var 4)), (some 5), none⟩,
  ⟨(.mov (.k (.int .i64 0))), (some 6), none⟩]
def c20_3 : List CO := [⟨(.bin .lss (.var 6) (.var 5)), (some 7), none⟩]
def c20_4 : List CO := [⟨(.ia 4 (.var 4) (.var 6)), none, none⟩,
  ⟨(.load true 4 (.loc 0)), none, none⟩,
  ⟨(.box 29 (.k (.agg #[(.slice none 0 0), (.int .i64 0), (.slice none 0 0), (.int .i64 0)]))), (some 3), none⟩,
  ⟨(.store 4 (.var 3) (.loc 1)), none, none⟩]
def c20_5 : List CO := [⟨(.mov (.var 2)), none, none⟩,
  ⟨(.fa 1 (.var 3)), none, none⟩,
  ⟨(.load true 3 (.loc 0)), none, none⟩,
  ⟨(.bslice 3 [(.int .i64 0), (.slice none 0 0), (.int .i64 0)] 1 [(0, (.loc 0))]), none, none⟩,
  ⟨(.append 27 3 40 (.loc 3) (.loc 0)), none, none⟩,
  ⟨(.mov (.loc 0)), (some 2), none⟩]
def c20_6 : List CO := [⟨(.fa 1 (.var 3)), none, none⟩,
  ⟨(.fa 0 (.loc 0)), none, none⟩,
  ⟨(.load false 1 (.loc 0)), none, none⟩,
  ⟨(.bin .eql (.loc 0) (.k (.int .i64 3))), (some 8), none⟩]
def c20_7 : List CO := [⟨(.mov (.var 2)), none, none⟩,
  ⟨(.mov (.loc 0)), (some 1), none⟩]
def c20_8 : List CO := [⟨(.bin .add (.var 6) (.k (.int .i64 1))), none, none⟩,
  ⟨(.mov (.loc 0)), (some 6), none⟩]
def c20_9 : CC := (.seq (.region [] [] c20_3) (.seq (.cond (.var 7) .skip (.exit 0)) (.seq (.block 1 (.seq (.region [] [] c20_4) (.seq (.region [] [] c20_5) (.seq (.region [] [] c20_6) (.cond (.var 8) (.seq (.region [] [] c20_7) .ret) .skip))))) (.region [] [] c20_8))))
def c20_10 : List CO := [⟨(.mov (.var 2)), none, none⟩,
  ⟨(.mov (.loc 0)), (some 1), none⟩]
def c20 : CFun := ⟨1, 9, (.seq (.region [] [] c20_0) (.seq (.region [] [] c20_1) (.seq (.seq (.region [] [] c20_2) (.block 0 (.loop [false, false, true, false, true, true, true, false, false] [] c20_9))) (.seq (.region [] [] c20_10) .ret)))), [.var 1]⟩
theorem ok20 : CodeOk Try.prog T 20 c20 := ⟨⟨Try.f20, Hints.of [] [] [(0, [false, false, true, false, true, true, true, false, false], [])], [0, 2, 3, 5, 6, 7, 8, 9, 20], Try.func20, by kernel_rfl, by kernel_rfl⟩⟩

/-! spinney/spinneyref20.Events -/
def c21_0 : List CO := [⟨(.mov (.k (.slice none 0 0))), (some 1), none⟩]
def c21_1 : List CO := [⟨(.mov (.k (.slice none 0 0))), (some 2), none⟩]
def c21_2 : List CO := [⟨(.mov (.var 0)), (some 4), none⟩,
  ⟨(.len .slice (.var 4)), (some 5), none⟩,
  ⟨(.mov (.k (.int .i64 0))), (some 6), none⟩]
def c21_3 : List CO := [⟨(.bin .lss (.var 6) (.var 5)), (some 7), none⟩]
def c21_4 : List CO := [⟨(.ia 4 (.var 4) (.var 6)), none, none⟩,
  ⟨(.load true 4 (.loc 0)), none, none⟩,
  ⟨(.box 29 (.k (.agg #[(.slice none 0 0), (.int .i64 0), (.slice none 0 0), (.int .i64 0)]))), (some 3), none⟩,
  ⟨(.store 4 (.var 3) (.loc 1)), none, none⟩]
def c21_5 : List CO := [⟨(.mov (.var 2)), none, none⟩,
  ⟨(.fa 1 (.var 3)), none, none⟩,
  ⟨(.load true 3 (.loc 0)), none, none⟩,
  ⟨(.bslice 3 [(.int .i64 0), (.slice none 0 0), (.int .i64 0)] 1 [(0, (.loc 0))]), none, none⟩,
  ⟨(.append 27 3 40 (.loc 3) (.loc 0)), none, none⟩,
  ⟨(.mov (.loc 0)), (some 2), none⟩]
def c21_6 : List CO := [⟨(.fa 1 (.var 3)), none, none⟩,
  ⟨(.fa 0 (.loc 0)), none, none⟩,
  ⟨(.load false 1 (.loc 0)), none, none⟩,
  ⟨(.bin .eql (.loc 0) (.k (.int .i64 3))), (some 8), none⟩]
def c21_7 : List CO := [⟨(.bin .add (.var 6) (.k (.int .i64 1))), none, none⟩,
  ⟨(.mov (.loc 0)), (some 6), none⟩]
def c21_8 : CC := (.seq (.region [] [] c21_3) (.seq (.cond (.var 7) .skip (.exit 0)) (.seq (.block 1 (.seq (.region [] [] c21_4) (.seq (.region [] [] c21_5) (.seq (.region [] [] c21_6) (.cond (.var 8) (.exit 0) .skip))))) (.region [] [] c21_7))))
def c21_9 : List CO := [⟨(.mov (.var 2)), none, none⟩,
  ⟨(.mov (.loc 0)), (some 1), none⟩]
def c21 : CFun := ⟨1, 9, (.seq (.region [] [] c21_0) (.seq (.region [] [] c21_1) (.seq (.seq (.region [] [] c21_2) (.block 0 (.loop [false, false, true, false, true, true, true, false, false] [] c21_8))) (.seq (.region [] [] c21_9) .ret)))), [.var 1]⟩
theorem ok21 : CodeOk Try.prog T 21 c21 := ⟨⟨Try.f21, Hints.of [] [] [(0, [false, false, true, false, true, true, true, false, false], [])], [0, 2, 3, 5, 6, 7, 8, 9, 20], Try.func21, by kernel_rfl, by kernel_rfl⟩⟩

/-! spinney/spinneylaw20.at -/
def c22_0 : List CO := [⟨(.box 29 (.k (.agg #[(.slice none 0 0), (.int .i64 0), (.slice none 0 0), (.int .i64 0)]))), (some 1), none⟩]
def c22_1 : List CO := [⟨(.mov (.var 0)), none, none⟩,
  ⟨(.build [(.int .i64 0), (.slice none 0 0), (.int .i64 0)] [(0, 1, (.k (.int .i64 1)))]), none, none⟩,
  ⟨(.build [(.slice none 0 0), (.int .i64 0), (.slice none 0 0), (.int .i64 0)] [(0, 1, (.loc 1)), (1, 3, (.loc 0))]), none, none⟩,
  ⟨(.store 4 (.var 1) (.loc 0)), none, none⟩]
def c22 : CFun := ⟨1, 2, (.seq (.region [] [] c22_0) (.seq (.region [] [] c22_1) .ret)), [.cell 1 true 4]⟩
theorem ok22 : CodeOk Try.prog T 22 c22 := ⟨⟨Try.f22, Hints.of [] [] [], [0, 2], Try.func22, by kernel_rfl, by kernel_rfl⟩⟩

/-! sort.Search -/
def c23_0 : List CO := [⟨(.mov (.k (.int .i64 0))), (some 2), none⟩]
def c23_1 : List CO := [⟨(.mov (.var 0)), none, none⟩,
  ⟨(.mov (.k (.int .i64 0))), (some 3), none⟩,
  ⟨(.mov (.loc 1)), (some 4), none⟩]
def c23_2 : List CO := [⟨(.mov (.var 3)), none, none⟩,
  ⟨(.mov (.var 4)), none, none⟩,
  ⟨(.bin .lss (.loc 1) (.loc 0)), (some 6), none⟩]
def c23_3 : List CO := [⟨(.mov (.var 3)), none, none⟩,
  ⟨(.mov (.var 4)), none, none⟩,
  ⟨(.bin .add (.loc 1) (.loc 0)), none, none⟩,
  ⟨(.conv .u64 (.loc 0)), none, none⟩,
  ⟨(.shf false (.loc 0) (.k (.int .u64 1))), none, none⟩,
  ⟨(.conv .i64 (.loc 0)), none, none⟩,
  ⟨(.mov (.loc 0)), (some 5), none⟩]
def c23_4 : List CO := [⟨(.mov (.var 1)), none, none⟩,
  ⟨(.mov (.var 5)), none, none⟩,
  ⟨(.callv (.loc 1) [(.loc 0)]), none, none⟩,
  ⟨(.un .not (.loc 0)), (some 7), none⟩]
def c23_5 : List CO := [⟨(.mov (.var 5)), none, none⟩,
  ⟨(.bin .add (.loc 0) (.k (.int .i64 1))), none, none⟩,
  ⟨(.mov (.loc 0)), (some 3), none⟩]
def c23_6 : List CO := [⟨(.mov (.var 5)), none, none⟩,
  ⟨(.mov (.loc 0)), (some 4), none⟩]
def c23_7 : CC := (.seq (.seq (.region [] [] c23_2) (.cond (.var 6) .skip (.exit 0))) (.block 1 (.seq (.region [] [] c23_3) (.seq (.region [] [] c23_4) (.cond (.var 7) (.region [] [] c23_5) (.region [] [] c23_6))))))
def c23_8 : List CO := [⟨(.mov (.var 3)), none, none⟩,
  ⟨(.mov (.loc 0)), (some 2), none⟩]
def c23 : CFun := ⟨2, 8, (.seq (.region [] [] c23_0) (.seq (.region [] [] c23_1) (.seq (.block 0 (.loop [false, true, false, true, true, false, false, false] [] c23_7)) (.seq (.region [] [] c23_8) .ret)))), [.var 2]⟩
theorem ok23 : CodeOk Try.prog T 23 c23 := ⟨⟨Try.f23, Hints.of [] [] [(0, [false, true, false, true, true, false, false, false], [])], [0, 1, 4, 5, 6, 7, 11, 21], Try.func23, by kernel_rfl, by kernel_rfl⟩⟩

/-! spinney/log.Put$1 -/
def c24_0 : List CO := [⟨(.mov (.k (.bool false))), (some 3), none⟩]
def c24_1 : List CO := [⟨(.load false 1 (.var 1)), none, none⟩,
  ⟨(.mov (.var 0)), none, none⟩,
  ⟨(.ia 4 (.loc 1) (.loc 0)), none, none⟩,
  ⟨(.fa 0 (.loc 0)), none, none⟩,
  ⟨(.load false 1 (.loc 0)), none, none⟩,
  ⟨(.fa 0 (.var 2)), none, none⟩,
  ⟨(.load false 1 (.loc 0)), none, none⟩,
  ⟨(.call true 25 [(.loc 2), (.loc 0)]), none, none⟩,
  ⟨(.bin .geq (.loc 0) (.k (.int .i64 0))), none, none⟩,
  ⟨(.mov (.loc 0)), (some 3), none⟩]
def c24 : CFun := ⟨3, 4, (.seq (.region [] [] c24_0) (.seq (.region [] [] c24_1) .ret)), [.var 3]⟩
theorem ok24 : CodeOk Try.prog T 24 c24 := ⟨⟨Try.f24, Hints.of [] [] [], [0, 1, 2, 4], Try.func24, by kernel_rfl, by kernel_rfl⟩⟩

/-! spinney/label.Compare -/
def c25_0 : List CO := [⟨(.mov (.k (.int .i64 0))), (some 2), none⟩]
def c25_1 : List CO := [⟨(.mov (.var 0)), none, none⟩,
  ⟨(.mov (.var 1)), none, none⟩,
  ⟨(.call true 36 [(.loc 1), (.loc 0)]), none, none⟩,
  ⟨(.mov (.loc 0)), (some 3), none⟩]
def c25_2 : List CO := [⟨(.mov (.var 3)), none, none⟩,
  ⟨(.mov (.var 0)), none, none⟩,
  ⟨(.len .slice (.loc 0)), none, none⟩,
  ⟨(.bin .lss (.loc 2) (.loc 0)), none, none⟩,
  ⟨(.mov (.loc 0)), none, none⟩,
  ⟨(.mov (.var 3)), none, (some ((.loc 0), true))⟩,
  ⟨(.mov (.var 1)), none, (some ((.loc 1), true))⟩,
  ⟨(.len .slice (.loc 0)), none, (some ((.loc 2), true))⟩,
  ⟨(.bin .lss (.loc 2) (.loc 0)), none, (some ((.loc 3), true))⟩,
  ⟨(.pick (.loc 4) (.loc 0) (.k (.bool false))), (some 4), none⟩]
def c25_3 : List CO := [⟨(.mov (.var 0)), none, none⟩,
  ⟨(.mov (.var 3)), none, none⟩,
  ⟨(.ia 1 (.loc 1) (.loc 0)), none, none⟩,
  ⟨(.load false 1 (.loc 0)), none, none⟩,
  ⟨(.mov (.var 1)), none, none⟩,
  ⟨(.mov (.var 3)), none, none⟩,
  ⟨(.ia 1 (.loc 1) (.loc 0)), none, none⟩,
  ⟨(.load false 1 (.loc 0)), none, none⟩,
  ⟨(.call true 37 [(.loc 4), (.loc 0)]), none, none⟩,
  ⟨(.mov (.loc 0)), (some 2), none⟩]
def c25_4 : List CO := [⟨(.mov (.var 0)), none, none⟩,
  ⟨(.len .slice (.loc 0)), none, none⟩,
  ⟨(.mov (.var 1)), none, none⟩,
  ⟨(.len .slice (.loc 0)), none, none⟩,
  ⟨(.call true 37 [(.loc 2), (.loc 0)]), none, none⟩,
  ⟨(.mov (.loc 0)), (some 2), none⟩]
def c25 : CFun := ⟨2, 5, (.seq (.region [] [] c25_0) (.seq (.region [] [] c25_1) (.seq (.seq (.region [] [] c25_2) (.cond (.var 4) (.seq (.region [] [] c25_3) .ret) .skip)) (.seq (.region [] [] c25_4) .ret)))), [.var 2]⟩
theorem ok25 : CodeOk Try.prog T 25 c25 := ⟨⟨Try.f25, Hints.of [] [] [], [0, 1, 4, 5, 18], Try.func25, by kernel_rfl, by kernel_rfl⟩⟩

/-! slices.Clone[[]spinney/api.Entry,spinney/api.Entry] -/
def c27_0 : List CO := [⟨(.mov (.k (.slice none 0 0))), (some 1), none⟩]
def c27_1 : List CO := [⟨(.mov (.var 0)), none, none⟩,
  ⟨(.eqv .slice false (.loc 0) (.k (.slice none 0 0))), (some 2), none⟩]
def c27_2 : List CO := [⟨(.mov (.k (.slice none 0 0))), (some 1), none⟩]
def c27_3 : List CO := [⟨(.bslice 4 [(.slice none 0 0), (.int .i64 0), (.slice none 0 0), (.int .i64 0)] 0 []), none, none⟩,
  ⟨(.mov (.var 0)), none, none⟩,
  ⟨(.append 29 4 64 (.loc 1) (.loc 0)), none, none⟩,
  ⟨(.mov (.loc 0)), (some 1), none⟩]
def c27 : CFun := ⟨1, 3, (.seq (.region [] [] c27_0) (.seq (.seq (.region [] [] c27_1) (.cond (.var 2) (.seq (.region [] [] c27_2) .ret) .skip)) (.seq (.region [] [] c27_3) .ret))), [.var 1]⟩
theorem ok27 : CodeOk Try.prog T 27 c27 := ⟨⟨Try.f27, Hints.of [] [] [], [0, 2, 4], Try.func27, by kernel_rfl, by kernel_rfl⟩⟩
theorem ok27z : CodeOk Try.prog T0 27 c27 := ⟨⟨Try.f27, Hints.of [] [] [], [0, 2, 4], Try.func27, by kernel_rfl, by kernel_rfl⟩⟩

/-! spinney/spinneyref14.SameEvent -/
def c28_0 : List CO := [⟨(.box 27 (.var 0)), (some 2), none⟩,
  ⟨(.box 27 (.var 1)), (some 3), none⟩,
  ⟨(.mov (.k (.bool false))), (some 4), none⟩]
def c28_1 : List CO := [⟨(.fa 0 (.var 2)), none, none⟩,
  ⟨(.load false 1 (.loc 0)), none, none⟩,
  ⟨(.fa 0 (.var 3)), none, none⟩,
  ⟨(.load false 1 (.loc 0)), none, none⟩,
  ⟨(.bin .eql (.loc 2) (.loc 0)), none, none⟩,
  ⟨(.mov (.loc 0)), none, none⟩,
  ⟨(.fa 2 (.var 2)), none, (some ((.loc 0), true))⟩,
  ⟨(.load false 1 (.loc 0)), none, (some ((.loc 1), true))⟩,
  ⟨(.fa 2 (.var 3)), none, (some ((.loc 2), true))⟩,
  ⟨(.load false 1 (.loc 0)), none, (some ((.loc 3), true))⟩,
  ⟨(.bin .eql (.loc 2) (.loc 0)), none, (some ((.loc 4), true))⟩,
  ⟨(.pick (.loc 5) (.loc 0) (.k (.bool false))), none, none⟩,
  ⟨(.mov (.loc 0)), none, none⟩,
  ⟨(.fa 1 (.var 2)), none, (some ((.loc 0), true))⟩,
  ⟨(.load false 1 (.loc 0)), none, (some ((.loc 1), true))⟩,
  ⟨(.fa 1 (.var 3)), none, (some ((.loc 2), true))⟩,
  ⟨(.load false 1 (.loc 0)), none, (some ((.loc 3), true))⟩,
  ⟨(.call true 40 [(.loc 2), (.loc 0)]), none, (some ((.loc 4), true))⟩,
  ⟨(.pick (.loc 5) (.loc 0) (.k (.bool false))), none, none⟩,
  ⟨(.mov (.loc 0)), (some 4), none⟩]
def c28 : CFun := ⟨2, 5, (.seq (.region [] [] c28_0) (.seq (.region [] [] c28_1) .ret)), [.var 4]⟩
theorem ok28 : CodeOk Try.prog T 28 c28 := ⟨⟨Try.f28, Hints.of [] [] [], [0, 1, 2, 3, 4], Try.func28, by kernel_rfl, by kernel_rfl⟩⟩

/-! slices.MinFunc[[][]int,[]int] -/
def c29_0 : List CO := [⟨(.mov (.k (.slice none 0 0))), (some 2), none⟩]
def c29_1 : List CO := [⟨(.mov (.var 0)), none, none⟩,
  ⟨(.len .slice (.loc 0)), none, none⟩,
  ⟨(.bin .lss (.loc 0) (.k (.int .i64 1))), (some 5), none⟩]
def c29_2 : List CO := [⟨.bad, none, none⟩,
  ⟨.bad, none, none⟩]
def c29_3 : List CO := [⟨(.mov (.var 0)), none, none⟩,
  ⟨(.ia 1 (.loc 0) (.k (.int .i64 0))), none, none⟩,
  ⟨(.load false 1 (.loc 0)), none, none⟩,
  ⟨(.mov (.loc 0)), (some 3), none⟩]
def c29_4 : List CO := [⟨(.mov (.k (.int .i64 1))), (some 4), none⟩]
def c29_5 : List CO := [⟨(.mov (.var 4)), none, none⟩,
  ⟨(.mov (.var 0)), none, none⟩,
  ⟨(.len .slice (.loc 0)), none, none⟩,
  ⟨(.bin .lss (.loc 2) (.loc 0)), (some 6), none⟩]
def c29_6 : List CO := [⟨(.mov (.var 1)), none, none⟩,
  ⟨(.mov (.var 0)), none, none⟩,
  ⟨(.mov (.var 4)), none, none⟩,
  ⟨(.ia 1 (.loc 1) (.loc 0)), none, none⟩,
  ⟨(.load false 1 (.loc 0)), none, none⟩,
  ⟨(.mov (.var 3)), none, none⟩,
  ⟨(.callv (.loc 5) [(.loc 1), (.loc 0)]), none, none⟩,
  ⟨(.bin .lss (.loc 0) (.k (.int .i64 0))), (some 7), none⟩]
def c29_7 : List CO := [⟨(.mov (.var 0)), none, none⟩,
  ⟨(.mov (.var 4)), none, none⟩,
  ⟨(.ia 1 (.loc 1) (.loc 0)), none, none⟩,
  ⟨(.load false 1 (.loc 0)), none, none⟩,
  ⟨(.mov (.loc 0)), (some 3), none⟩]
def c29_8 : List CO := [⟨(.mov (.var 4)), none, none⟩,
  ⟨(.bin .add (.loc 0) (.k (.int .i64 1))), none, none⟩,
  ⟨(.mov (.loc 0)), (some 4), none⟩]
def c29_9 : CC := (.seq (.seq (.region [] [] c29_5) (.cond (.var 6) .skip (.exit 0))) (.seq (.block 1 (.seq (.region [] [] c29_6) (.cond (.var 7) (.region [] [] c29_7) .skip))) (.region [] [] c29_8)))
def c29_10 : List CO := [⟨(.mov (.var 3)), none, none⟩,
  ⟨(.mov (.loc 0)), (some 2), none⟩]
def c29 : CFun := ⟨2, 8, (.seq (.region [] [] c29_0) (.seq (.seq (.region [] [] c29_1) (.cond (.var 5) (.region [] [] c29_2) .skip)) (.seq (.region [] [] c29_3) (.seq (.seq (.region [] [] c29_4) (.block 0 (.loop [true, true, false, true, true, false, false, false] [] c29_9))) (.seq (.region [] [] c29_10) .ret))))), [.var 2]⟩
theorem ok29 : CodeOk Try.prog T 29 c29 := ⟨⟨Try.f29, Hints.of [] [] [(0, [true, true, false, true, true, false, false, false], [])], [0, 1, 4, 5, 6, 9, 17, 27], Try.func29, by kernel_rfl, by kernel_rfl⟩⟩

/-! slices.IndexFunc[[]spinney/api.Entry,spinney/api.Entry] -/
def c30_0 : List CO := [⟨(.mov (.k (.int .i64 0))), (some 2), none⟩]
def c30_1 : List CO := [⟨(.mov (.var 0)), none, none⟩,
  ⟨(.len .slice (.loc 0)), (some 4), none⟩,
  ⟨(.mov (.k (.int .i64 0))), (some 5), none⟩]
def c30_2 : List CO := [⟨(.bin .lss (.var 5) (.var 4)), (some 6), none⟩]
def c30_3 : List CO := [⟨(.mov (.var 5)), none, none⟩,
  ⟨(.mov (.loc 0)), (some 3), none⟩]
def c30_4 : List CO := [⟨(.mov (.var 1)), none, none⟩,
  ⟨(.mov (.var 0)), none, none⟩,
  ⟨(.mov (.var 3)), none, none⟩,
  ⟨(.ia 4 (.loc 1) (.loc 0)), none, none⟩,
  ⟨(.load true 4 (.loc 0)), none, none⟩,
  ⟨(.callv (.loc 4) [(.loc 0)]), (some 7), none⟩]
def c30_5 : List CO := [⟨(.mov (.var 3)), none, none⟩,
  ⟨(.mov (.loc 0)), (some 2), none⟩]
def c30_6 : List CO := [⟨(.bin .add (.var 5) (.k (.int .i64 1))), none, none⟩,
  ⟨(.mov (.loc 0)), (some 5), none⟩]
def c30_7 : CC := (.seq (.region [] [] c30_2) (.seq (.cond (.var 6) .skip (.exit 0)) (.seq (.block 1 (.seq (.region [] [] c30_3) (.seq (.region [] [] c30_4) (.cond (.var 7) (.seq (.region [] [] c30_5) .ret) .skip)))) (.region [] [] c30_6))))
def c30_8 : List CO := [⟨(.mov (.k (.int .i64 (-1)))), (some 2), none⟩]
def c30 : CFun := ⟨2, 8, (.seq (.region [] [] c30_0) (.seq (.seq (.region [] [] c30_1) (.block 0 (.loop [true, true, false, false, true, true, false, false] [] c30_7))) (.seq (.region [] [] c30_8) .ret))), [.var 2]⟩
theorem ok30 : CodeOk Try.prog T 30 c30 := ⟨⟨Try.f30, Hints.of [] [] [(0, [true, true, false, false, true, true, false, false], [])], [0, 1, 4, 5, 7, 8, 9, 16], Try.func30, by kernel_rfl, by kernel_rfl⟩⟩

/-! spinney/log.Ready$1 -/
def c31_0 : List CO := [⟨(.box 29 (.var 0)), (some 2), none⟩,
  ⟨(.mov (.k (.bool false))), (some 3), none⟩]
def c31_1 : List CO := [⟨(.fa 0 (.var 2)), none, none⟩,
  ⟨(.load false 1 (.loc 0)), none, none⟩,
  ⟨(.load false 1 (.var 1)), none, none⟩,
  ⟨(.call true 25 [(.loc 1), (.loc 0)]), none, none⟩,
  ⟨(.bin .geq (.loc 0) (.k (.int .i64 0))), none, none⟩,
  ⟨(.mov (.loc 0)), (some 3), none⟩]
def c31 : CFun := ⟨2, 4, (.seq (.region [] [] c31_0) (.seq (.region [] [] c31_1) .ret)), [.var 3]⟩
theorem ok31 : CodeOk Try.prog T 31 c31 := ⟨⟨Try.f31, Hints.of [] [] [], [0, 1, 2, 3], Try.func31, by kernel_rfl, by kernel_rfl⟩⟩

/-! slices.DeleteFunc[[]spinney/api.Entry,spinney/api.Entry] -/
def c32_0 : List CO := [⟨(.mov (.k (.slice none 0 0))), (some 2), none⟩]
def c32_1 : List CO := [⟨(.mov (.var 0)), none, none⟩,
  ⟨(.mov (.var 1)), none, none⟩,
  ⟨(.call false 30 [(.loc 1), (.loc 0)]), none, none⟩,
  ⟨(.mov (.loc 0)), (some 3), none⟩]
def c32_2 : List CO := [⟨(.mov (.var 3)), none, none⟩,
  ⟨(.bin .eql (.loc 0) (.k (.int .i64 (-1)))), (some 6), none⟩]
def c32_3 : List CO := [⟨(.mov (.var 0)), none, none⟩,
  ⟨(.mov (.loc 0)), (some 2), none⟩]
def c32_4 : List CO := [⟨(.mov (.var 3)), none, none⟩,
  ⟨(.bin .add (.loc 0) (.k (.int .i64 1))), none, none⟩,
  ⟨(.mov (.loc 0)), (some 4), none⟩]
def c32_5 : List CO := [⟨(.mov (.var 4)), none, none⟩,
  ⟨(.mov (.var 0)), none, none⟩,
  ⟨(.len .slice (.loc 0)), none, none⟩,
  ⟨(.bin .lss (.loc 2) (.loc 0)), (some 7), none⟩]
def c32_6 : List CO := [⟨(.mov (.var 0)), none, none⟩,
  ⟨(.mov (.var 4)), none, none⟩,
  ⟨(.ia 4 (.loc 1) (.loc 0)), none, none⟩,
  ⟨(.load true 4 (.loc 0)), none, none⟩,
  ⟨(.box 29 (.k (.agg #[(.slice none 0 0), (.int .i64 0), (.slice none 0 0), (.int .i64 0)]))), (some 5), none⟩,
  ⟨(.store 4 (.var 5) (.loc 1)), none, none⟩]
def c32_7 : List CO := [⟨(.mov (.var 1)), none, none⟩,
  ⟨(.load true 4 (.var 5)), none, none⟩,
  ⟨(.callv (.loc 1) [(.loc 0)]), none, none⟩,
  ⟨(.un .not (.loc 0)), (some 8), none⟩]
def c32_8 : List CO := [⟨(.mov (.var 0)), none, none⟩,
  ⟨(.mov (.var 3)), none, none⟩,
  ⟨(.load true 4 (.var 5)), none, none⟩,
  ⟨(.ia 4 (.loc 2) (.loc 1)), none, none⟩,
  ⟨(.store 4 (.loc 0) (.loc 1)), none, none⟩]
def c32_9 : List CO := [⟨(.mov (.var 3)), none, none⟩,
  ⟨(.bin .add (.loc 0) (.k (.int .i64 1))), none, none⟩,
  ⟨(.mov (.loc 0)), (some 3), none⟩]
def c32_10 : List CO := [⟨(.mov (.var 4)), none, none⟩,
  ⟨(.bin .add (.loc 0) (.k (.int .i64 1))), none, none⟩,
  ⟨(.mov (.loc 0)), (some 4), none⟩]
def c32_11 : CC := (.seq (.seq (.region [] [] c32_5) (.cond (.var 7) .skip (.exit 0))) (.seq (.block 1 (.seq (.region [] [] c32_6) (.seq (.region [] [] c32_7) (.cond (.var 8) (.seq (.region [] [] c32_8) (.region [] [] c32_9)) .skip)))) (.region [] [] c32_10)))
def c32_12 : List CO := [⟨(.mov (.var 0)), none, none⟩,
  ⟨(.mov (.var 3)), none, none⟩,
  ⟨(.slice 4 (.loc 1) (some (.loc 0)) none none), none, none⟩,
  ⟨(.clrrow 4 [(.slice none 0 0), (.int .i64 0), (.slice none 0 0), (.int .i64 0)] (.loc 0)), none, none⟩]
def c32_13 : List CO := [⟨(.mov (.var 0)), none, none⟩,
  ⟨(.mov (.var 3)), none, none⟩,
  ⟨(.slice 4 (.loc 1) none (some (.loc 0)) none), none, none⟩,
  ⟨(.mov (.loc 0)), (some 2), none⟩]
def c32 : CFun := ⟨2, 9, (.seq (.region [] [] c32_0) (.seq (.region [] [] c32_1) (.seq (.seq (.region [] [] c32_2) (.cond (.var 6) (.seq (.region [] [] c32_3) .ret) .skip)) (.seq (.seq (.region [] [] c32_4) (.block 0 (.loop [true, true, false, true, true, false, false, false, false] [] c32_11))) (.seq (.region [] [] c32_12) (.seq (.region [] [] c32_13) .ret)))))), [.var 2]⟩
theorem ok32 : CodeOk Try.prog T 32 c32 := ⟨⟨Try.f32, Hints.of [] [] [(0, [true, true, false, true, true, false, false, false, false], [])], [0, 1, 4, 5, 6, 7, 12, 19, 29], Try.func32, by kernel_rfl, by kernel_rfl⟩⟩

/-! spinney/log.Drop$1 -/
def c33_0 : List CO := [⟨(.box 29 (.var 0)), (some 3), none⟩,
  ⟨(.mov (.k (.bool false))), (some 4), none⟩]
def c33_1 : List CO := [⟨(.fa 0 (.var 3)), none, none⟩,
  ⟨(.load false 1 (.loc 0)), none, none⟩,
  ⟨(.load false 1 (.var 1)), none, none⟩,
  ⟨(.load false 1 (.var 2)), none, none⟩,
  ⟨(.call true 34 [(.loc 2), (.loc 1), (.loc 0)]), none, none⟩,
  ⟨(.mov (.loc 0)), (some 4), none⟩]
def c33 : CFun := ⟨3, 5, (.seq (.region [] [] c33_0) (.seq (.region [] [] c33_1) .ret)), [.var 4]⟩
theorem ok33 : CodeOk Try.prog T 33 c33 := ⟨⟨Try.f33, Hints.of [] [] [], [0, 1, 2, 3, 4], Try.func33, by kernel_rfl, by kernel_rfl⟩⟩

/-! spinney/label.Pruned -/
def c34_0 : List CO := [⟨(.mov (.k (.bool false))), (some 3), none⟩]
def c34_1 : List CO := [⟨(.mov (.var 1)), none, none⟩,
  ⟨(.mov (.var 0)), none, none⟩,
  ⟨(.call true 41 [(.loc 1), (.loc 0)]), none, none⟩,
  ⟨(.mov (.loc 0)), none, none⟩,
  ⟨(.mov (.var 0)), none, (some ((.loc 0), true))⟩,
  ⟨(.mov (.var 1)), none, (some ((.loc 1), true))⟩,
  ⟨(.call true 36 [(.loc 1), (.loc 0)]), none, (some ((.loc 2), true))⟩,
  ⟨(.mov (.var 2)), none, (some ((.loc 3), true))⟩,
  ⟨(.mov (.var 1)), none, (some ((.loc 4), true))⟩,
  ⟨(.len .slice (.loc 0)), none, (some ((.loc 5), true))⟩,
  ⟨(.mm false (.loc 2) (.loc 0)), none, (some ((.loc 6), true))⟩,
  ⟨(.bin .geq (.loc 4) (.loc 0)), none, (some ((.loc 7), true))⟩,
  ⟨(.pick (.loc 8) (.loc 0) (.k (.bool false))), none, none⟩,
  ⟨(.mov (.loc 0)), (some 3), none⟩]
def c34 : CFun := ⟨3, 4, (.seq (.region [] [] c34_0) (.seq (.region [] [] c34_1) .ret)), [.var 3]⟩
theorem ok34 : CodeOk Try.prog T 34 c34 := ⟨⟨Try.f34, Hints.of [] [] [], [0, 1, 2, 6], Try.func34, by kernel_rfl, by kernel_rfl⟩⟩

/-! spinney/spinneyref19.Pruned -/
def c35_0 : List CO := [⟨(.mov (.k (.bool false))), (some 3), none⟩]
def c35_1 : List CO := [⟨(.mov (.var 0)), none, none⟩,
  ⟨(.mov (.var 1)), none, none⟩,
  ⟨(.mov (.var 2)), none, none⟩,
  ⟨(.mm true (.loc 0) (.k (.int .i64 0))), none, none⟩,
  ⟨(.mov (.var 1)), none, none⟩,
  ⟨(.len .slice (.loc 0)), none, none⟩,
  ⟨(.mm false (.loc 2) (.loc 0)), none, none⟩,
  ⟨(.slice 1 (.loc 5) none (some (.loc 0)) none), none, none⟩,
  ⟨(.call true 42 [(.loc 7), (.loc 0)]), none, none⟩,
  ⟨(.mov (.loc 0)), none, none⟩,
  ⟨(.mov (.var 1)), none, (some ((.loc 0), true))⟩,
  ⟨(.mov (.var 0)), none, (some ((.loc 1), true))⟩,
  ⟨(.call true 43 [(.loc 1), (.loc 0)]), none, (some ((.loc 2), true))⟩,
  ⟨(.pick (.loc 3) (.loc 0) (.k (.bool false))), none, none⟩,
  ⟨(.mov (.loc 0)), (some 3), none⟩]
def c35 : CFun := ⟨3, 4, (.seq (.region [] [] c35_0) (.seq (.region [] [] c35_1) .ret)), [.var 3]⟩
theorem ok35 : CodeOk Try.prog T 35 c35 := ⟨⟨Try.f35, Hints.of [] [] [], [0, 1, 2, 6], Try.func35, by kernel_rfl, by kernel_rfl⟩⟩

/-! spinney/label.parts -/
def c36_0 : List CO := [⟨(.mov (.k (.int .i64 0))), (some 2), none⟩]
def c36_1 : List CO := [⟨(.mov (.var 0)), none, none⟩,
  ⟨(.len .slice (.loc 0)), none, none⟩,
  ⟨(.mov (.var 1)), none, none⟩,
  ⟨(.len .slice (.loc 0)), none, none⟩,
  ⟨(.mm false (.loc 2) (.loc 0)), (some 4), none⟩,
  ⟨(.mov (.k (.int .i64 0))), (some 5), none⟩]
def c36_2 : List CO := [⟨(.bin .lss (.var 5) (.var 4)), (some 6), none⟩]
def c36_3 : List CO := [⟨(.mov (.var 5)), none, none⟩,
  ⟨(.mov (.loc 0)), (some 3), none⟩]
def c36_4 : List CO := [⟨(.mov (.var 0)), none, none⟩,
  ⟨(.mov (.var 3)), none, none⟩,
  ⟨(.ia 1 (.loc 1) (.loc 0)), none, none⟩,
  ⟨(.load false 1 (.loc 0)), none, none⟩,
  ⟨(.mov (.var 1)), none, none⟩,
  ⟨(.mov (.var 3)), none, none⟩,
  ⟨(.ia 1 (.loc 1) (.loc 0)), none, none⟩,
  ⟨(.load false 1 (.loc 0)), none, none⟩,
  ⟨(.bin .neq (.loc 4) (.loc 0)), (some 7), none⟩]
def c36_5 : List CO := [⟨(.mov (.var 3)), none, none⟩,
  ⟨(.mov (.loc 0)), (some 2), none⟩]
def c36_6 : List CO := [⟨(.bin .add (.var 5) (.k (.int .i64 1))), none, none⟩,
  ⟨(.mov (.loc 0)), (some 5), none⟩]
def c36_7 : CC := (.seq (.region [] [] c36_2) (.seq (.cond (.var 6) .skip (.exit 0)) (.seq (.block 1 (.seq (.region [] [] c36_3) (.seq (.region [] [] c36_4) (.cond (.var 7) (.seq (.region [] [] c36_5) .ret) .skip)))) (.region [] [] c36_6))))
def c36_8 : List CO := [⟨(.mov (.var 0)), none, none⟩,
  ⟨(.len .slice (.loc 0)), none, none⟩,
  ⟨(.mov (.var 1)), none, none⟩,
  ⟨(.len .slice (.loc 0)), none, none⟩,
  ⟨(.mm false (.loc 2) (.loc 0)), none, none⟩,
  ⟨(.mov (.loc 0)), (some 2), none⟩]
def c36 : CFun := ⟨2, 8, (.seq (.region [] [] c36_0) (.seq (.seq (.region [] [] c36_1) (.block 0 (.loop [true, true, false, false, true, true, false, false] [] c36_7))) (.seq (.region [] [] c36_8) .ret))), [.var 2]⟩
theorem ok36 : CodeOk Try.prog T 36 c36 := ⟨⟨Try.f36, Hints.of [] [] [(0, [true, true, false, false, true, true, false, false], [])], [0, 1, 4, 5, 10, 11, 12, 22], Try.func36, by kernel_rfl, by kernel_rfl⟩⟩

/-! cmp.Compare[int] -/
def c37_0 : List CO := [⟨(.mov (.k (.int .i64 0))), (some 2), none⟩]
def c37_1 : List CO := [⟨(.mov (.var 0)), none, none⟩,
  ⟨(.call true 44 [(.loc 0)]), none, none⟩,
  ⟨(.mov (.loc 0)), (some 3), none⟩]
def c37_2 : List CO := [⟨(.mov (.var 1)), none, none⟩,
  ⟨(.call true 44 [(.loc 0)]), none, none⟩,
  ⟨(.mov (.loc 0)), (some 4), none⟩]
def c37_3 : List CO := [⟨(.mov (.var 3)), (some 5), none⟩]
def c37_4 : List CO := [⟨(.mov (.var 4)), (some 6), none⟩]
def c37_5 : List CO := [⟨(.mov (.k (.int .i64 0))), (some 2), none⟩]
def c37_6 : List CO := [⟨(.mov (.k (.int .i64 (-1)))), (some 2), none⟩]
def c37_7 : List CO := [⟨(.mov (.var 4)), (some 7), none⟩]
def c37_8 : List CO := [⟨(.mov (.k (.int .i64 1))), (some 2), none⟩]
def c37_9 : List CO := [⟨(.mov (.var 0)), none, none⟩,
  ⟨(.mov (.var 1)), none, none⟩,
  ⟨(.bin .lss (.loc 1) (.loc 0)), (some 8), none⟩]
def c37_10 : List CO := [⟨(.mov (.k (.int .i64 (-1)))), (some 2), none⟩]
def c37_11 : List CO := [⟨(.mov (.var 0)), none, none⟩,
  ⟨(.mov (.var 1)), none, none⟩,
  ⟨(.bin .gtr (.loc 1) (.loc 0)), (some 9), none⟩]
def c37_12 : List CO := [⟨(.mov (.k (.int .i64 1))), (some 2), none⟩]
def c37_13 : List CO := [⟨(.mov (.k (.int .i64 0))), (some 2), none⟩]
def c37 : CFun := ⟨2, 10, (.seq (.region [] [] c37_0) (.seq (.region [] [] c37_1) (.seq (.region [] [] c37_2) (.seq (.seq (.region [] [] c37_3) (.cond (.var 5) (.seq (.seq (.region [] [] c37_4) (.cond (.var 6) (.seq (.region [] [] c37_5) .ret) .skip)) (.seq (.region [] [] c37_6) .ret)) .skip)) (.seq (.seq (.region [] [] c37_7) (.cond (.var 7) (.seq (.region [] [] c37_8) .ret) .skip)) (.seq (.seq (.region [] [] c37_9) (.cond (.var 8) (.seq (.region [] [] c37_10) .ret) .skip)) (.seq (.seq (.region [] [] c37_11) (.cond (.var 9) (.seq (.region [] [] c37_12) .ret) .skip)) (.seq (.region [] [] c37_13) .ret)))))))), [.var 2]⟩
theorem ok37 : CodeOk Try.prog T 37 c37 := ⟨⟨Try.f37, Hints.of [] [] [], [0, 1, 4, 5, 6, 11, 12, 13, 16, 19], Try.func37, by kernel_rfl, by kernel_rfl⟩⟩

/-! spinney/spinneyref03.SameAll -/
def c40_0 : List CO := [⟨(.mov (.k (.bool false))), (some 2), none⟩]
def c40_1 : List CO := [⟨(.mov (.var 0)), none, none⟩,
  ⟨(.build [(.int .i64 0), (.string ⟨#[]⟩), (.int .i64 0), (.slice none 0 0)] [(3, 1, (.loc 0))]), none, none⟩,
  ⟨(.mov (.var 1)), none, none⟩,
  ⟨(.build [(.int .i64 0), (.string ⟨#[]⟩), (.int .i64 0), (.slice none 0 0)] [(3, 1, (.loc 0))]), none, none⟩,
  ⟨(.call true 46 [(.loc 2), (.loc 0)]), none, none⟩,
  ⟨(.mov (.loc 0)), (some 2), none⟩]
def c40 : CFun := ⟨2, 3, (.seq (.region [] [] c40_0) (.seq (.region [] [] c40_1) .ret)), [.var 2]⟩
theorem ok40 : CodeOk Try.prog T 40 c40 := ⟨⟨Try.f40, Hints.of [] [] [], [0, 1, 4], Try.func40, by kernel_rfl, by kernel_rfl⟩⟩

/-! spinney/label.Left -/
def c41_0 : List CO := [⟨(.mov (.k (.bool false))), (some 2), none⟩]
def c41_1 : List CO := [⟨(.mov (.var 0)), none, none⟩,
  ⟨(.mov (.var 1)), none, none⟩,
  ⟨(.call true 36 [(.loc 1), (.loc 0)]), none, none⟩,
  ⟨(.mov (.loc 0)), (some 3), none⟩]
def c41_2 : List CO := [⟨(.mov (.var 3)), none, none⟩,
  ⟨(.mov (.var 0)), none, none⟩,
  ⟨(.len .slice (.loc 0)), none, none⟩,
  ⟨(.bin .lss (.loc 2) (.loc 0)), none, none⟩,
  ⟨(.mov (.loc 0)), none, none⟩,
  ⟨(.mov (.var 3)), none, (some ((.loc 0), true))⟩,
  ⟨(.mov (.var 1)), none, (some ((.loc 1), true))⟩,
  ⟨(.len .slice (.loc 0)), none, (some ((.loc 2), true))⟩,
  ⟨(.bin .lss (.loc 2) (.loc 0)), none, (some ((.loc 3), true))⟩,
  ⟨(.pick (.loc 4) (.loc 0) (.k (.bool false))), none, none⟩,
  ⟨(.mov (.loc 0)), none, none⟩,
  ⟨(.mov (.var 0)), none, (some ((.loc 0), true))⟩,
  ⟨(.mov (.var 3)), none, (some ((.loc 1), true))⟩,
  ⟨(.ia 1 (.loc 1) (.loc 0)), none, (some ((.loc 2), true))⟩,
  ⟨(.load false 1 (.loc 0)), none, (some ((.loc 3), true))⟩,
  ⟨(.mov (.var 1)), none, (some ((.loc 4), true))⟩,
  ⟨(.mov (.var 3)), none, (some ((.loc 5), true))⟩,
  ⟨(.ia 1 (.loc 1) (.loc 0)), none, (some ((.loc 6), true))⟩,
  ⟨(.load false 1 (.loc 0)), none, (some ((.loc 7), true))⟩,
  ⟨(.bin .lss (.loc 4) (.loc 0)), none, (some ((.loc 8), true))⟩,
  ⟨(.pick (.loc 9) (.loc 0) (.k (.bool false))), none, none⟩,
  ⟨(.mov (.loc 0)), (some 2), none⟩]
def c41 : CFun := ⟨2, 4, (.seq (.region [] [] c41_0) (.seq (.region [] [] c41_1) (.seq (.region [] [] c41_2) .ret))), [.var 2]⟩
theorem ok41 : CodeOk Try.prog T 41 c41 := ⟨⟨Try.f41, Hints.of [] [] [], [0, 1, 4, 5], Try.func41, by kernel_rfl, by kernel_rfl⟩⟩

/-! spinney/spinneyref19.Under -/
def c42_0 : List CO := [⟨(.mov (.k (.bool false))), (some 2), none⟩]
def c42_1 : List CO := [⟨(.mov (.var 1)), none, none⟩,
  ⟨(.len .slice (.loc 0)), none, none⟩,
  ⟨(.bin .eql (.loc 0) (.k (.int .i64 0))), (some 3), none⟩]
def c42_2 : List CO := [⟨(.mov (.k (.bool true))), (some 2), none⟩]
def c42_3 : List CO := [⟨(.mov (.var 0)), none, none⟩,
  ⟨(.len .slice (.loc 0)), none, none⟩,
  ⟨(.bin .gtr (.loc 0) (.k (.int .i64 0))), none, none⟩,
  ⟨(.mov (.loc 0)), none, none⟩,
  ⟨(.mov (.var 0)), none, (some ((.loc 0), true))⟩,
  ⟨(.ia 1 (.loc 0) (.k (.int .i64 0))), none, (some ((.loc 1), true))⟩,
  ⟨(.load false 1 (.loc 0)), none, (some ((.loc 2), true))⟩,
  ⟨(.mov (.var 1)), none, (some ((.loc 3), true))⟩,
  ⟨(.ia 1 (.loc 0) (.k (.int .i64 0))), none, (some ((.loc 4), true))⟩,
  ⟨(.load false 1 (.loc 0)), none, (some ((.loc 5), true))⟩,
  ⟨(.bin .eql (.loc 3) (.loc 0)), none, (some ((.loc 6), true))⟩,
  ⟨(.pick (.loc 7) (.loc 0) (.k (.bool false))), none, none⟩,
  ⟨(.mov (.loc 0)), none, none⟩,
  ⟨(.mov (.var 0)), none, (some ((.loc 0), true))⟩,
  ⟨(.slice 1 (.loc 0) (some (.k (.int .i64 1))) none none), none, (some ((.loc 1), true))⟩,
  ⟨(.mov (.var 1)), none, (some ((.loc 2), true))⟩,
  ⟨(.slice 1 (.loc 0) (some (.k (.int .i64 1))) none none), none, (some ((.loc 3), true))⟩,
  ⟨(.call true 42 [(.loc 2), (.loc 0)]), none, (some ((.loc 4), true))⟩,
  ⟨(.pick (.loc 5) (.loc 0) (.k (.bool false))), none, none⟩,
  ⟨(.mov (.loc 0)), (some 2), none⟩]
def c42 : CFun := ⟨2, 4, (.seq (.region [] [] c42_0) (.seq (.seq (.region [] [] c42_1) (.cond (.var 3) (.seq (.region [] [] c42_2) .ret) .skip)) (.seq (.region [] [] c42_3) .ret))), [.var 2]⟩
theorem ok42 : CodeOk Try.prog T 42 c42 := ⟨⟨Try.f42, Hints.of [] [] [], [0, 1, 4, 7], Try.func42, by kernel_rfl, by kernel_rfl⟩⟩

/-! spinney/spinneyref19.Left -/
def c43_0 : List CO := [⟨(.mov (.k (.bool false))), (some 2), none⟩]
def c43_1 : List CO := [⟨(.mov (.var 0)), none, none⟩,
  ⟨(.len .slice (.loc 0)), none, none⟩,
  ⟨(.bin .eql (.loc 0) (.k (.int .i64 0))), none, none⟩,
  ⟨(.mov (.loc 0)), none, none⟩,
  ⟨(.mov (.var 1)), none, (some ((.loc 0), false))⟩,
  ⟨(.len .slice (.loc 0)), none, (some ((.loc 1), false))⟩,
  ⟨(.bin .eql (.loc 0) (.k (.int .i64 0))), none, (some ((.loc 2), false))⟩,
  ⟨(.pick (.loc 3) (.k (.bool true)) (.loc 0)), (some 3), none⟩]
def c43_2 : List CO := [⟨(.mov (.k (.bool false))), (some 2), none⟩]
def c43_3 : List CO := [⟨(.mov (.var 0)), none, none⟩,
  ⟨(.ia 1 (.loc 0) (.k (.int .i64 0))), none, none⟩,
  ⟨(.load false 1 (.loc 0)), none, none⟩,
  ⟨(.mov (.var 1)), none, none⟩,
  ⟨(.ia 1 (.loc 0) (.k (.int .i64 0))), none, none⟩,
  ⟨(.load false 1 (.loc 0)), none, none⟩,
  ⟨(.bin .neq (.loc 3) (.loc 0)), (some 4), none⟩]
def c43_4 : List CO := [⟨(.mov (.var 0)), none, none⟩,
  ⟨(.ia 1 (.loc 0) (.k (.int .i64 0))), none, none⟩,
  ⟨(.load false 1 (.loc 0)), none, none⟩,
  ⟨(.mov (.var 1)), none, none⟩,
  ⟨(.ia 1 (.loc 0) (.k (.int .i64 0))), none, none⟩,
  ⟨(.load false 1 (.loc 0)), none, none⟩,
  ⟨(.bin .lss (.loc 3) (.loc 0)), none, none⟩,
  ⟨(.mov (.loc 0)), (some 2), none⟩]
def c43_5 : List CO := [⟨(.mov (.var 0)), none, none⟩,
  ⟨(.slice 1 (.loc 0) (some (.k (.int .i64 1))) none none), none, none⟩,
  ⟨(.mov (.var 1)), none, none⟩,
  ⟨(.slice 1 (.loc 0) (some (.k (.int .i64 1))) none none), none, none⟩,
  ⟨(.call true 43 [(.loc 2), (.loc 0)]), none, none⟩,
  ⟨(.mov (.loc 0)), (some 2), none⟩]
def c43 : CFun := ⟨2, 5, (.seq (.region [] [] c43_0) (.seq (.seq (.region [] [] c43_1) (.cond (.var 3) (.seq (.region [] [] c43_2) .ret) .skip)) (.seq (.seq (.region [] [] c43_3) (.cond (.var 4) (.seq (.region [] [] c43_4) .ret) .skip)) (.seq (.region [] [] c43_5) .ret)))), [.var 2]⟩
theorem ok43 : CodeOk Try.prog T 43 c43 := ⟨⟨Try.f43, Hints.of [] [] [], [0, 1, 4, 12, 19], Try.func43, by kernel_rfl, by kernel_rfl⟩⟩

/-! cmp.isNaN[int] -/
def c44_0 : List CO := [⟨(.mov (.k (.bool false))), (some 1), none⟩]
def c44_1 : List CO := [⟨(.mov (.var 0)), none, none⟩,
  ⟨(.mov (.var 0)), none, none⟩,
  ⟨(.bin .neq (.loc 1) (.loc 0)), none, none⟩,
  ⟨(.mov (.loc 0)), (some 1), none⟩]
def c44 : CFun := ⟨1, 2, (.seq (.region [] [] c44_0) (.seq (.region [] [] c44_1) .ret)), [.var 1]⟩
theorem ok44 : CodeOk Try.prog T 44 c44 := ⟨⟨Try.f44, Hints.of [] [] [], [0, 2], Try.func44, by kernel_rfl, by kernel_rfl⟩⟩

/-! spinney/spinneyref03.Same -/
def c46_0 : List CO := [⟨(.box 66 (.var 0)), (some 2), none⟩,
  ⟨(.box 66 (.var 1)), (some 3), none⟩,
  ⟨(.mov (.k (.bool false))), (some 4), none⟩]
def c46_1 : List CO := [⟨(.fa 0 (.var 2)), none, none⟩,
  ⟨(.load false 1 (.loc 0)), none, none⟩,
  ⟨(.fa 0 (.var 3)), none, none⟩,
  ⟨(.load false 1 (.loc 0)), none, none⟩,
  ⟨(.bin .neq (.loc 2) (.loc 0)), none, none⟩,
  ⟨(.mov (.loc 0)), none, none⟩,
  ⟨(.fa 1 (.var 2)), none, (some ((.loc 0), false))⟩,
  ⟨(.load false 1 (.loc 0)), none, (some ((.loc 1), false))⟩,
  ⟨(.fa 1 (.var 3)), none, (some ((.loc 2), false))⟩,
  ⟨(.load false 1 (.loc 0)), none, (some ((.loc 3), false))⟩,
  ⟨(.bin .neq (.loc 2) (.loc 0)), none, (some ((.loc 4), false))⟩,
  ⟨(.pick (.loc 5) (.k (.bool true)) (.loc 0)), none, none⟩,
  ⟨(.mov (.loc 0)), none, none⟩,
  ⟨(.fa 2 (.var 2)), none, (some ((.loc 0), false))⟩,
  ⟨(.load false 1 (.loc 0)), none, (some ((.loc 1), false))⟩,
  ⟨(.fa 2 (.var 3)), none, (some ((.loc 2), false))⟩,
  ⟨(.load false 1 (.loc 0)), none, (some ((.loc 3), false))⟩,
  ⟨(.bin .neq (.loc 2) (.loc 0)), none, (some ((.loc 4), false))⟩,
  ⟨(.pick (.loc 5) (.k (.bool true)) (.loc 0)), none, none⟩,
  ⟨(.mov (.loc 0)), none, none⟩,
  ⟨(.fa 3 (.var 2)), none, (some ((.loc 0), false))⟩,
  ⟨(.load false 1 (.loc 0)), none, (some ((.loc 1), false))⟩,
  ⟨(.len .slice (.loc 0)), none, (some ((.loc 2), false))⟩,
  ⟨(.fa 3 (.var 3)), none, (some ((.loc 3), false))⟩,
  ⟨(.load false 1 (.loc 0)), none, (some ((.loc 4), false))⟩,
  ⟨(.len .slice (.loc 0)), none, (some ((.loc 5), false))⟩,
  ⟨(.bin .neq (.loc 3) (.loc 0)), none, (some ((.loc 6), false))⟩,
  ⟨(.pick (.loc 7) (.k (.bool true)) (.loc 0)), (some 6), none⟩]
def c46_2 : List CO := [⟨(.mov (.k (.bool false))), (some 4), none⟩]
def c46_3 : List CO := [⟨(.fa 3 (.var 2)), none, none⟩,
  ⟨(.load false 1 (.loc 0)), none, none⟩,
  ⟨(.len .slice (.loc 0)), (some 7), none⟩,
  ⟨(.mov (.k (.int .i64 0))), (some 8), none⟩]
def c46_4 : List CO := [⟨(.bin .lss (.var 8) (.var 7)), (some 9), none⟩]
def c46_5 : List CO := [⟨(.mov (.var 8)), none, none⟩,
  ⟨(.mov (.loc 0)), (some 5), none⟩]
def c46_6 : List CO := [⟨(.fa 3 (.var 2)), none, none⟩,
  ⟨(.load false 1 (.loc 0)), none, none⟩,
  ⟨(.mov (.var 5)), none, none⟩,
  ⟨(.ia 4 (.loc 1) (.loc 0)), none, none⟩,
  ⟨(.load true 4 (.loc 0)), none, none⟩,
  ⟨(.fa 3 (.var 3)), none, none⟩,
  ⟨(.load false 1 (.loc 0)), none, none⟩,
  ⟨(.mov (.var 5)), none, none⟩,
  ⟨(.ia 4 (.loc 1) (.loc 0)), none, none⟩,
  ⟨(.load true 4 (.loc 0)), none, none⟩,
  ⟨(.call true 46 [(.loc 5), (.loc 0)]), none, none⟩,
  ⟨(.un .not (.loc 0)), (some 10), none⟩]
def c46_7 : List CO := [⟨(.mov (.k (.bool false))), (some 4), none⟩]
def c46_8 : List CO := [⟨(.bin .add (.var 8) (.k (.int .i64 1))), none, none⟩,
  ⟨(.mov (.loc 0)), (some 8), none⟩]
def c46_9 : CC := (.seq (.region [] [] c46_4) (.seq (.cond (.var 9) .skip (.exit 0)) (.seq (.block 1 (.seq (.region [] [] c46_5) (.seq (.region [] [] c46_6) (.cond (.var 10) (.seq (.region [] [] c46_7) .ret) .skip)))) (.region [] [] c46_8))))
def c46_10 : List CO := [⟨(.mov (.k (.bool true))), (some 4), none⟩]
def c46 : CFun := ⟨2, 11, (.seq (.region [] [] c46_0) (.seq (.seq (.region [] [] c46_1) (.cond (.var 6) (.seq (.region [] [] c46_2) .ret) .skip)) (.seq (.seq (.region [] [] c46_3) (.block 0 (.loop [false, false, true, true, false, false, false, true, true, false, false] [] c46_9))) (.seq (.region [] [] c46_10) .ret)))), [.var 4]⟩
theorem ok46 : CodeOk Try.prog T 46 c46 := ⟨⟨Try.f46, Hints.of [] [] [(0, [false, false, true, true, false, false, false, true, true, false, false], [])], [0, 1, 2, 3, 4, 5, 33, 36, 37, 38, 51], Try.func46, by kernel_rfl, by kernel_rfl⟩⟩

def Fl : List (FuncId × FEntry) := [(3, .code c3), (7, .code c7), (8, .code c8), (9, .code c9), (10, .code c10), (11, .pkeep c11), (12, .code c12), (13, .code c13), (14, .code c14), (15, .code c15), (16, .pkeep c16), (17, .code c17), (18, .code c18), (19, .code c19), (20, .code c20), (21, .code c21), (22, .code c22), (23, .code c23), (24, .code c24), (25, .code c25), (27, .oracle (cloneG 29 4 64)), (28, .code c28), (29, .code c29), (30, .code c30), (31, .code c31), (32, .code c32), (33, .code c33), (34, .code c34), (35, .code c35), (36, .code c36), (37, .code c37), (40, .code c40), (41, .code c41), (42, .code c42), (43, .code c43), (44, .code c44), (46, .code c46)] ++ [(26, .oracle (insG 29 4 64))]
def F (f : FuncId) : Option FEntry := Fl.lookup f
theorem hF : ∀ (B : Nat) (w0 : World), K B w0 → ∀ f e, F f = some e → EntryOk Try.prog T B w0 f e := fun B w0 hK => entries_of (fun p hp => by
  simp only [Fl, List.cons_append, List.nil_append, List.mem_cons, List.not_mem_nil, or_false] at hp
  rcases hp with rfl | rfl | rfl | rfl | rfl | rfl | rfl | rfl | rfl | rfl | rfl | rfl | rfl | rfl | rfl | rfl | rfl | rfl | rfl | rfl | rfl | rfl | rfl | rfl | rfl | rfl | rfl | rfl | rfl | rfl | rfl | rfl | rfl | rfl | rfl | rfl | rfl | rfl
  · exact ok3
  · exact ok7
  · exact ok8
  · exact ok9
  · exact ok10
  · exact ok11
  · exact ok12
  · exact ok13
  · exact ok14
  · exact ok15
  · exact ok16
  · exact ok17
  · exact ok18
  · exact ok19
  · exact ok20
  · exact ok21
  · exact ok22
  · exact ok23
  · exact ok24
  · exact ok25
  · exact clone_entry (zero := [.slice none 0 0, .int .i64 0, .slice none 0 0, .int .i64 0]) mixed0 hT0 hnp0 ok27z B w0
  · exact ok28
  · exact ok29
  · exact ok30
  · exact ok31
  · exact ok32
  · exact ok33
  · exact ok34
  · exact ok35
  · exact ok36
  · exact ok37
  · exact ok40
  · exact ok41
  · exact ok42
  · exact ok43
  · exact ok44
  · exact ok46
  · exact oracle_any (ins_ok tiOk29))
theorem hP : ∀ f, T.push f = true → ∃ g, F f = some (.oracle g) ∧ ∀ args h r h', g args h = some (r, h') → ∃ X, h' = h ++ X := by
  intro f hf
  have : f = 27 := by simpa [T, pushes] using hf
  subst this
  exact ⟨_, rfl, cloneG_push⟩
end Go.Proofs.Ytkdjdhfoodlnfaa
end

/-! What all rows of this program need. -/
section
set_option linter.unusedVariables false
namespace Go.Proofs.Ytkdjdhfoodlnfaa
open Go Go.AE Go.Proofs Go.ChangeShapes Go.WideShapes Go.ChangeAt Go.RowKit
open Go.ChangeMaps (open_string shut_string)

theorem own : ownKnob Try.prog.godebug = none := by kernel_rfl
theorem laidOut : laidOutB Try.prog = true := by kernel_rfl
def G : List TypeId := [2, 3, 9, 22, 23, 24, 25, 27, 29, 39, 66]
theorem hG : goodB T G = true := by kernel_rfl

theorem law_calls {f : FuncId} {args : List AV} {vals : Array Value} {W : World} (hK : K W.heap.size W) (ha : ArgsRep (AllCells W) W [] args vals) {n : Nat} (he : callN F n f args [] = some (.v (.bool true), [])) :
    Calls Try.prog f vals W fun e W' => e = .returned (.bool true) ∧ Below W.heap.size W W' := by
  have hI : AE.Inv W.heap.size W (AllCells W) [] W [] := ⟨Below.refl _ _, Nat.le_refl _, rfl, fun id o L h => by simp at h, fun id L h => by simp at h, fun i j Li Lj h => by simp at h, fun b x h => h⟩
  refine ((callN_ok mixed0 hT hKs hF hP n W.heap.size W hK).calls f args [] _ _ he (AllCells W) [] W vals hI ha).mono fun e W' h => ?_
  obtain ⟨v, I', σ', rfl, hI', _, hr⟩ := h
  cases hr
  exact ⟨rfl, hI'.below⟩
end Go.Proofs.Ytkdjdhfoodlnfaa
end

/-! The row of LogDrops, out of its plain law. -/
section
set_option linter.unusedVariables false
namespace Go.Proofs.Ytkdjdhfoodlnfaa
open Go Go.AE Go.Proofs Go.ChangeShapes Go.WideShapes Go.ChangeAt Go.RowKit
open Go.ChangeMaps (open_string shut_string)
namespace logDrops
theorem args {I : Cells} {W : World} {a0 a1 a2 a3 : AV} {v0 v1 v2 v3 : Value} (r0 : Rep I W [] a0 v0) (r1 : Rep I W [] a1 v1) (r2 : Rep I W [] a2 v2) (r3 : Rep I W [] a3 v3) : ArgsRep I W [] [a0, a1, a2, a3] #[v0, v1, v2, v3] := by
  refine ⟨rfl, fun i a h => ?_⟩
  match i, h with
  | 0, h => cases h; exact r0
  | 1, h => cases h; exact r1
  | 2, h => cases h; exact r2
  | 3, h => cases h; exact r3
def Plain : Prop := ∀ a0 a1 a2 a3 : AV, WT T 22 a0.cells → Q77 ti22.agg a0.cells = some a0 → WT T 23 a1.cells → Q77 ti23.agg a1.cells = some a1 → WT T 3 a2.cells → Q77 ti3.agg a2.cells = some a2 → WT T 39 a3.cells → Q77 ti39.agg a3.cells = some a3 →
  ∃ n, callN F n 7 [a0, a1, a2, a3] [] = some (.v (.bool true), [])

set_option maxRecDepth 100000 in
theorem lifted (plain : Plain) (os : Os) (started : os.Started) (H : Type) (enc : TypeId × Value → H) :
    ReturnsInHanded {} Try.checked os 7 .any (Rows.logDropsSpec.pre6 enc Try.prog Try.f7 Rows.logDropsRow.domain false) (Rows.logDropsSpec.post enc Try.prog Try.f7 false true false false) := by
  refine returnsInHanded_of_change_sized (C := Try.checked) own started (by kernel_rfl) Try.func7
    (ChangeSpec.witness6 (enc := enc) (C := Try.checked) false ⟨#[], #[ti22.zero, ti23.zero, ti3.zero, ti39.zero], []⟩ 8 (by kernel_rfl) (by kernel_rfl) (by kernel_rfl) (by kernel_rfl)) ?_
  intro W base args' ds gs before hval0 hW hcnd hsz0 _
  have hval : ∀ (j : Nat) t v, Try.f7.params[j]? = some t → args'[j]? = some v → Value.okWide Try.prog W .any base t v := hval0
  have hW' := hW
  obtain ⟨p, q, hA0, hV, rfl, hfz, hnd⟩ := hW
  have hA : DataW.TrodAll enc Try.prog W 0 (fun _ => true) true Try.f7.params.toList args'.toList ds p := hA0
  rw [Try.params7] at hA hval
  obtain ⟨v0, vs0, d0, ds0, p0, q0, hargs, rfl, rfl, h0, r0⟩ := trodAll_cons hA
  obtain ⟨v1, vs1, d1, ds1, p1, q1, rfl, rfl, rfl, h1, r1⟩ := trodAll_cons r0
  obtain ⟨v2, vs2, d2, ds2, p2, q2, rfl, rfl, rfl, h2, r2⟩ := trodAll_cons r1
  obtain ⟨v3, vs3, d3, ds3, p3, q3, rfl, rfl, rfl, h3, r3⟩ := trodAll_cons r2
  obtain ⟨rfl, rfl, rfl⟩ := trodAll_nil r3
  obtain rfl : args' = #[v0, v1, v2, v3] := by cases args'; simp_all
  obtain ⟨rfl, rfl⟩ := trodVars_none hV
  obtain ⟨a0, w0, e0, x0⟩ := trod_arg hT hG (t := 22) (i := ti22) (by decide) rfl (hval 0 22 v0 rfl rfl) h0
  obtain ⟨a1, w1, e1, x1⟩ := trod_arg hT hG (t := 23) (i := ti23) (by decide) rfl (hval 1 23 v1 rfl rfl) h1
  obtain ⟨a2, w2, e2, x2⟩ := trod_arg hT hG (t := 3) (i := ti3) (by decide) rfl (hval 2 3 v2 rfl rfl) h2
  obtain ⟨a3, w3, e3, x3⟩ := trod_arg hT hG (t := 39) (i := ti39) (by decide) rfl (hval 3 39 v3 rfl rfl) h3
  have l0 : ∀ x ∈ p0, x.block < W.heap.size := by obtain ⟨m, hm⟩ := h0; exact DataW.trod_lt m _ _ _ hm
  have l1 : ∀ x ∈ p1, x.block < W.heap.size := by obtain ⟨m, hm⟩ := h1; exact DataW.trod_lt m _ _ _ hm
  have l2 : ∀ x ∈ p2, x.block < W.heap.size := by obtain ⟨m, hm⟩ := h2; exact DataW.trod_lt m _ _ _ hm
  have l3 : ∀ x ∈ p3, x.block < W.heap.size := by obtain ⟨m, hm⟩ := h3; exact DataW.trod_lt m _ _ _ hm
  obtain ⟨n, hn⟩ := plain a0 a1 a2 a3 w0 e0 w1 e1 w2 e2 w3 e3
  refine (law_calls trivial (args x0 x1 x2 x3) hn).mono fun e W' ⟨he, bel⟩ => ?_
  subst he
  exact ⟨_, rfl, _, _, _, [], _, [], hW', trodAll_mk1 (shut_bool Try.underlying4 _),
    (trodAll_cons_mk (Below.trod laidOut (by kernel_rfl) (of_decide_eq_true (by kernel_rfl)) h0 bel l0) (trodAll_cons_mk (Below.trod laidOut (by kernel_rfl) (of_decide_eq_true (by kernel_rfl)) h1 bel l1) (trodAll_cons_mk (Below.trod laidOut (by kernel_rfl) (of_decide_eq_true (by kernel_rfl)) h2 bel l2) (trodAll_cons_mk (Below.trod laidOut (by kernel_rfl) (of_decide_eq_true (by kernel_rfl)) h3 bel l3) trodAll_mk0)))), rfl, bel.frame _, fun h => by cases h⟩
theorem over (plain : Plain) : Rows.logDropsRow.holds Try.pinned (OpenSpec.ofChange Rows.logDropsSpec) :=
  OpenClaim.holds_of_wide 7 Try.f7 rfl rfl rfl rfl rfl rfl rfl ⟨rfl, rfl, rfl, rfl, rfl⟩ rfl rfl rfl rfl rfl (by kernel_rfl) Try.func7 (by kernel_rfl)
    (of_decide_eq_true (by kernel_rfl)) (by unfold Func.isWrapper; first | (rw [if_pos (by decide +kernel)]; kernel_rfl) | (rw [if_neg (by decide +kernel)]; exact ⟨rfl, rfl⟩))
    (fun os started H enc _ => lifted plain os started H enc)
theorem proved (plain : Plain) : Rows.LogDropsSaid := over plain
end logDrops
end Go.Proofs.Ytkdjdhfoodlnfaa
end

/-! Places: how they compare; what a cut prunes. The program's, the document's. -/
section
set_option linter.unusedVariables false
set_option linter.unusedSimpArgs false
namespace Go.AE.Ytkdjdhfoodlnfaa
open Go Go.AE Go.Proofs.Ytkdjdhfoodlnfaa

def iv (n : Int) : AV := .v (.int .i64 n)
def Ns (c : AV) (ns : List Int) : Prop := Sl 1 c (ns.map iv) ∧ ns.length ≤ maxLen
theorem Ns.len {c : AV} {ns : List Int} (h : Ns c ns) (H : List AO) : evLen H .slice c = some ns.length := by
  have := h.1.len H
  rwa [List.length_map] at this
theorem Ns.sn {c : AV} {ns : List Int} (h : Ns c ns) (H : List AO) : c.snap1 H = some c := by
  obtain ⟨hs, _⟩ := h
  generalize ns.map iv = es at hs
  cases hs <;> rfl
theorem Ns.at {c : AV} {ns : List Int} (h : Ns c ns) {i : Nat} (hi : i < ns.length) (H : List AO) : iaV H 1 c (some i) = some (.ip [iv ns[i]]) := h.1.ia (by rw [List.getElem?_map, List.getElem?_eq_getElem hi]; rfl) H
theorem iv_ld {n : Int} (H : List AO) : Q76 H false 1 (.ip [iv n]) = some (.v (.int .i64 n)) := rfl
theorem iv_eq {n : Int} : iv n = .v (.int .i64 n) := rfl
theorem Ns.tail {c : AV} {n : Int} {ns : List Int} (h : Ns c (n :: ns)) (H : List AO) : ∃ c', slV H 1 (some (some 1)) none c = some c' ∧ Ns c' ns := by
  obtain ⟨hs, hm⟩ := h
  generalize hl : (n :: ns).map iv = es at hs
  cases hs with
  | nil => cases hl
  | slc ex nn es =>
    subst hl
    have e : slV H 1 (some (some 1)) none (.slc 1 ex nn ((n :: ns).map iv)) = some (.slc 1 ex nn (ns.map iv)) := by
      simp [slV, slo]
      exact List.take_of_length_le (by simp)
    exact ⟨_, e, .slc _ _ _, by simp at hm; omega⟩
theorem nat_one {vars env : List AV} : natO vars env (.k (.int .i64 1)) = some 1 := rfl
/-! ### cmp.Compare -/
def cmpI (a b : Int) : Int := if decide (a < b) = true then -1 else if decide (a > b) = true then 1 else 0
theorem nan_ok (x : Int) : callW F 44 [.v (.int .i64 x)] [] = some (.v (.bool false), []) := by
  refine callW_pure (c := c44) rfl rfl 0 ?_
  have z : (x == x) = true := beq_self_eq_true x
  simp only [c44, start, List.replicate, c44_0, c44_1, z, Q0, Q1, Q2, Q3, Q4, Q5, Q6, Q7, Q8, Q9, Q10, Q11, Q12, Q13, Q14, Q15, Q16, Q17, Q18, Q19, Q20, Q21, Q22, Q23, Q24, Q25, Q26, Q27, Q28, Q29, Q30, Q31, Q32, Q33, Q35, Q36, Q37, Q38, Q39, Q40, Q41, Q42, Q43, Q44, Q45, Q46, Q47, Q48, Q49, Q50, Q51, Q52, Q53, Q54, Q55, Q56, Q57, Q58, Q59, Q60, Q61, Q62, Q63, Q64, Q65, Q66, Q67, Q68, Q69, Q70, Q71, Q72, Q73, Q99, Q100, Q101, Q102, Q103, Q74, Q75, Q77, Q78, Q79, Q80, Q81, Q82, Q83, Q84, clr, List.length_nil, List.length_cons, List.getElem?_cons_zero, List.getElem?_cons_succ, Nat.reduceAdd, Nat.zero_add, Nat.add_zero, Nat.reduceLeDiff, Nat.reduceSub, ↓reduceIte, List.drop_succ_cons, List.drop_zero, List.take_succ_cons, List.take_zero, Bool.false_eq_true, List.nil_append, List.cons_append, Bool.not_true, Bool.not_false, cond_true, cond_false, bne, Q85, Q86, Q87, Q88, Q89, Q90, Q91, Q92, Q93, Q94, Q95, Q96, Q97, Q98, Q110, Q111, Q116, Q117, Q118, Q119, Q120, Q121, Q122, Q123, Option.map_some, Option.map_none, Q34]
theorem cmpi_ok (a b : Int) : callW F 37 [.v (.int .i64 a), .v (.int .i64 b)] [] = some (.v (.int .i64 (cmpI a b)), []) := by
  refine callW_pure (c := c37) rfl rfl 0 ?_
  have h1 := nan_ok a
  have h2 := nan_ok b
  unfold cmpI
  cases h3 : decide (a < b) with
  | true => simp only [c37, start, List.replicate, c37_0, c37_1, c37_2, c37_3, c37_7, c37_9, c37_10, h1, h2, h3, snap_int, Q0, Q1, Q2, Q3, Q4, Q5, Q6, Q7, Q8, Q9, Q10, Q11, Q12, Q13, Q14, Q15, Q16, Q17, Q18, Q19, Q20, Q21, Q22, Q23, Q24, Q25, Q26, Q27, Q28, Q29, Q30, Q31, Q32, Q33, Q35, Q36, Q37, Q38, Q39, Q40, Q41, Q42, Q43, Q44, Q45, Q46, Q47, Q48, Q49, Q50, Q51, Q52, Q53, Q54, Q55, Q56, Q57, Q58, Q59, Q60, Q61, Q62, Q63, Q64, Q65, Q66, Q67, Q68, Q69, Q70, Q71, Q72, Q73, Q99, Q100, Q101, Q102, Q103, Q74, Q75, Q77, Q78, Q79, Q80, Q81, Q82, Q83, Q84, clr, List.length_nil, List.length_cons, List.getElem?_cons_zero, List.getElem?_cons_succ, Nat.reduceAdd, Nat.zero_add, Nat.add_zero, Nat.reduceLeDiff, Nat.reduceSub, ↓reduceIte, List.drop_succ_cons, List.drop_zero, List.take_succ_cons, List.take_zero, Bool.false_eq_true, List.nil_append, List.cons_append, Bool.not_true, Bool.not_false, cond_true, cond_false, bne, Q85, Q86, Q87, Q88, Q89, Q90, Q91, Q92, Q93, Q94, Q95, Q96, Q97, Q98, Q110, Q111, Q116, Q117, Q118, Q119, Q120, Q121, Q122, Q123, Option.map_some, Option.map_none, Q34]
  | false =>
  cases h4 : decide (a > b) with
  | true => simp only [c37, start, List.replicate, c37_0, c37_1, c37_2, c37_3, c37_7, c37_9, c37_11, c37_12, h1, h2, h3, h4, snap_int, Q0, Q1, Q2, Q3, Q4, Q5, Q6, Q7, Q8, Q9, Q10, Q11, Q12, Q13, Q14, Q15, Q16, Q17, Q18, Q19, Q20, Q21, Q22, Q23, Q24, Q25, Q26, Q27, Q28, Q29, Q30, Q31, Q32, Q33, Q35, Q36, Q37, Q38, Q39, Q40, Q41, Q42, Q43, Q44, Q45, Q46, Q47, Q48, Q49, Q50, Q51, Q52, Q53, Q54, Q55, Q56, Q57, Q58, Q59, Q60, Q61, Q62, Q63, Q64, Q65, Q66, Q67, Q68, Q69, Q70, Q71, Q72, Q73, Q99, Q100, Q101, Q102, Q103, Q74, Q75, Q77, Q78, Q79, Q80, Q81, Q82, Q83, Q84, clr, List.length_nil, List.length_cons, List.getElem?_cons_zero, List.getElem?_cons_succ, Nat.reduceAdd, Nat.zero_add, Nat.add_zero, Nat.reduceLeDiff, Nat.reduceSub, ↓reduceIte, List.drop_succ_cons, List.drop_zero, List.take_succ_cons, List.take_zero, Bool.false_eq_true, List.nil_append, List.cons_append, Bool.not_true, Bool.not_false, cond_true, cond_false, bne, Q85, Q86, Q87, Q88, Q89, Q90, Q91, Q92, Q93, Q94, Q95, Q96, Q97, Q98, Q110, Q111, Q116, Q117, Q118, Q119, Q120, Q121, Q122, Q123, Option.map_some, Option.map_none, Q34]
  | false => simp only [c37, start, List.replicate, c37_0, c37_1, c37_2, c37_3, c37_7, c37_9, c37_11, c37_13, h1, h2, h3, h4, snap_int, Q0, Q1, Q2, Q3, Q4, Q5, Q6, Q7, Q8, Q9, Q10, Q11, Q12, Q13, Q14, Q15, Q16, Q17, Q18, Q19, Q20, Q21, Q22, Q23, Q24, Q25, Q26, Q27, Q28, Q29, Q30, Q31, Q32, Q33, Q35, Q36, Q37, Q38, Q39, Q40, Q41, Q42, Q43, Q44, Q45, Q46, Q47, Q48, Q49, Q50, Q51, Q52, Q53, Q54, Q55, Q56, Q57, Q58, Q59, Q60, Q61, Q62, Q63, Q64, Q65, Q66, Q67, Q68, Q69, Q70, Q71, Q72, Q73, Q99, Q100, Q101, Q102, Q103, Q74, Q75, Q77, Q78, Q79, Q80, Q81, Q82, Q83, Q84, clr, List.length_nil, List.length_cons, List.getElem?_cons_zero, List.getElem?_cons_succ, Nat.reduceAdd, Nat.zero_add, Nat.add_zero, Nat.reduceLeDiff, Nat.reduceSub, ↓reduceIte, List.drop_succ_cons, List.drop_zero, List.take_succ_cons, List.take_zero, Bool.false_eq_true, List.nil_append, List.cons_append, Bool.not_true, Bool.not_false, cond_true, cond_false, bne, Q85, Q86, Q87, Q88, Q89, Q90, Q91, Q92, Q93, Q94, Q95, Q96, Q97, Q98, Q110, Q111, Q116, Q117, Q118, Q119, Q120, Q121, Q122, Q123, Option.map_some, Option.map_none, Q34]
/-! ### parts -/
def parts : List Int → List Int → Nat
  | a :: l, b :: m => if a = b then parts l m + 1 else 0
  | _, _ => 0
theorem parts_le : ∀ (l m : List Int), parts l m ≤ l.length ∧ parts l m ≤ m.length
  | [], m => by simp [parts]
  | a :: l, [] => by simp [parts]
  | a :: l, b :: m => by
    have := parts_le l m
    rw [parts]
    split <;> simp only [List.length_cons] <;> omega
def V36 (c d : AV) (n i : Int) (x6 : AV) : List AV := [c, d, .junk, .junk, .v (.int .i64 n), .v (.int .i64 i), x6, .junk]
def K36 : List Bool := [true, true, false, false, true, true, false, false]
theorem min_nat (a b : Nat) : min (a : Int) (b : Int) = ((min a b : Nat) : Int) := by omega
theorem parts_ok {c d : AV} {x y : List Int} (hc : Ns c x) (hd : Ns d y) : callW F 36 [c, d] [] = some (.v (.int .i64 (parts x y)), []) := by
  have q1 := fun H => hc.len H
  have q2 := fun H => hd.len H
  obtain ⟨n, hn⟩ : ∃ n, n = min x.length y.length := ⟨_, rfl⟩
  have hm : min (x.length : Int) (y.length : Int) = (n : Int) := by rw [hn, min_nat]
  have loop : ∀ (v : List AV), clr K36 v = V36 c d n 0 .junk → ∃ e v' h', loopN (exec (callW F) (n + 1) c36_7) K36 (n + 1) v [] = some (e, v', h') ∧ h' = [] ∧
      ((e = .ret ∧ v'.getD 2 .junk = .v (.int .i64 (parts x y))) ∨ (e = .exit 0 ∧ v' = V36 c d n n (.v (.bool false)) ∧ parts x y = n)) := by
    intro v hv
    obtain ⟨e, v', h', g1, g2, g3⟩ := loop_rule0 (call := callW F) (K := n + 1) (b := c36_7) (keep := K36)
      (fun i v h => v = V36 c d n i .junk ∧ h = [] ∧ i ≤ n ∧ parts x y = i + parts (x.drop i) (y.drop i))
      (fun e v h => h = [] ∧ ((e = .ret ∧ v.getD 2 .junk = .v (.int .i64 (parts x y))) ∨ (e = .exit 0 ∧ v = V36 c d n n (.v (.bool false)) ∧ parts x y = n)))
      n (m := n + 1) (v := v) (h := []) (by omega) ⟨hv, rfl, by omega, by simp⟩ (by
        rintro i v h hi ⟨rfl, rfl, _, hp⟩
        by_cases hil : i < n
        · have hx : i < x.length := by omega
          have hy : i < y.length := by omega
          have hlt := lt_t hil
          have e1 := fun H => hc.at hx H
          have e2 := fun H => hd.at hy H
          have hw := wrap_succ (i := i) (len := n) hil (by have := hc.2; omega)
          rw [List.drop_eq_getElem_cons hx, List.drop_eq_getElem_cons hy, parts] at hp
          by_cases he : x[i] = y[i]
          · have z : (x[i] == y[i]) = true := by simpa using he
            rw [if_pos he] at hp
            refine ⟨.normal, [c, d, .junk, .v (.int .i64 i), .v (.int .i64 n), .v (.int .i64 ((i + 1 : Nat) : Int)), .v (.bool true), .v (.bool false)], [], ?_, hil, rfl, rfl, by omega, by omega⟩
            simp only [V36, c36_7, c36_2, c36_3, c36_4, c36_6, hlt, e1, e2, iv_ld, z, hw, Q0, Q1, Q2, Q3, Q4, Q5, Q6, Q7, Q8, Q9, Q10, Q11, Q12, Q13, Q14, Q15, Q16, Q17, Q18, Q19, Q20, Q21, Q22, Q23, Q24, Q25, Q26, Q27, Q28, Q29, Q30, Q31, Q32, Q33, Q35, Q36, Q37, Q38, Q39, Q40, Q41, Q42, Q43, Q44, Q45, Q46, Q47, Q48, Q49, Q50, Q51, Q52, Q53, Q54, Q55, Q56, Q57, Q58, Q59, Q60, Q61, Q62, Q63, Q64, Q65, Q66, Q67, Q68, Q69, Q70, Q71, Q72, Q73, Q99, Q100, Q101, Q102, Q103, Q74, Q75, Q77, Q78, Q79, Q80, Q81, Q82, Q83, Q84, clr, List.length_nil, List.length_cons, List.getElem?_cons_zero, List.getElem?_cons_succ, Nat.reduceAdd, Nat.zero_add, Nat.add_zero, Nat.reduceLeDiff, Nat.reduceSub, ↓reduceIte, List.drop_succ_cons, List.drop_zero, List.take_succ_cons, List.take_zero, Bool.false_eq_true, List.nil_append, List.cons_append, Bool.not_true, Bool.not_false, cond_true, cond_false, bne, Q85, Q86, Q87, Q88, Q89, Q90, Q91, Q92, Q93, Q94, Q95, Q96, Q97, Q98, Q110, Q111, Q116, Q117, Q118, Q119, Q120, Q121, Q122, Q123, Option.map_some, Option.map_none, Q34]
          · have z : (x[i] == y[i]) = false := by simpa using he
            rw [if_neg he, Nat.add_zero] at hp
            refine ⟨.ret, [c, d, .v (.int .i64 i), .v (.int .i64 i), .v (.int .i64 n), .v (.int .i64 i), .v (.bool true), .v (.bool true)], [], ?_, rfl, .inl ⟨rfl, by rw [hp]; rfl⟩⟩
            simp only [V36, c36_7, c36_2, c36_3, c36_4, c36_5, hlt, e1, e2, iv_ld, z, Q0, Q1, Q2, Q3, Q4, Q5, Q6, Q7, Q8, Q9, Q10, Q11, Q12, Q13, Q14, Q15, Q16, Q17, Q18, Q19, Q20, Q21, Q22, Q23, Q24, Q25, Q26, Q27, Q28, Q29, Q30, Q31, Q32, Q33, Q35, Q36, Q37, Q38, Q39, Q40, Q41, Q42, Q43, Q44, Q45, Q46, Q47, Q48, Q49, Q50, Q51, Q52, Q53, Q54, Q55, Q56, Q57, Q58, Q59, Q60, Q61, Q62, Q63, Q64, Q65, Q66, Q67, Q68, Q69, Q70, Q71, Q72, Q73, Q99, Q100, Q101, Q102, Q103, Q74, Q75, Q77, Q78, Q79, Q80, Q81, Q82, Q83, Q84, clr, List.length_nil, List.length_cons, List.getElem?_cons_zero, List.getElem?_cons_succ, Nat.reduceAdd, Nat.zero_add, Nat.add_zero, Nat.reduceLeDiff, Nat.reduceSub, ↓reduceIte, List.drop_succ_cons, List.drop_zero, List.take_succ_cons, List.take_zero, Bool.false_eq_true, List.nil_append, List.cons_append, Bool.not_true, Bool.not_false, cond_true, cond_false, bne, Q85, Q86, Q87, Q88, Q89, Q90, Q91, Q92, Q93, Q94, Q95, Q96, Q97, Q98, Q110, Q111, Q116, Q117, Q118, Q119, Q120, Q121, Q122, Q123, Option.map_some, Option.map_none, Q34]
        · have hie : i = n := by omega
          subst hie
          have hlt := lt_f (n := i)
          refine ⟨.exit 0, V36 c d i i (.v (.bool false)), [], ?_, rfl, .inr ⟨rfl, rfl, ?_⟩⟩
          · simp only [V36, c36_7, c36_2, hlt, Q0, Q1, Q2, Q3, Q4, Q5, Q6, Q7, Q8, Q9, Q10, Q11, Q12, Q13, Q14, Q15, Q16, Q17, Q18, Q19, Q20, Q21, Q22, Q23, Q24, Q25, Q26, Q27, Q28, Q29, Q30, Q31, Q32, Q33, Q35, Q36, Q37, Q38, Q39, Q40, Q41, Q42, Q43, Q44, Q45, Q46, Q47, Q48, Q49, Q50, Q51, Q52, Q53, Q54, Q55, Q56, Q57, Q58, Q59, Q60, Q61, Q62, Q63, Q64, Q65, Q66, Q67, Q68, Q69, Q70, Q71, Q72, Q73, Q99, Q100, Q101, Q102, Q103, Q74, Q75, Q77, Q78, Q79, Q80, Q81, Q82, Q83, Q84, clr, List.length_nil, List.length_cons, List.getElem?_cons_zero, List.getElem?_cons_succ, Nat.reduceAdd, Nat.zero_add, Nat.add_zero, Nat.reduceLeDiff, Nat.reduceSub, ↓reduceIte, List.drop_succ_cons, List.drop_zero, List.take_succ_cons, List.take_zero, Bool.false_eq_true, List.nil_append, List.cons_append, Bool.not_true, Bool.not_false, cond_true, cond_false, bne, Q85, Q86, Q87, Q88, Q89, Q90, Q91, Q92, Q93, Q94, Q95, Q96, Q97, Q98, Q110, Q111, Q116, Q117, Q118, Q119, Q120, Q121, Q122, Q123, Option.map_some, Option.map_none, Q34]
          · have h1 := (parts_le (x.drop i) (y.drop i))
            rw [List.length_drop, List.length_drop] at h1
            omega)
    exact ⟨e, v', h', g1, g3.1, g3.2⟩
  obtain ⟨e, v', h', g1, rfl, g3⟩ := loop [c, d, .v (.int .i64 0), .v undef, .v (.int .i64 n), .v (.int .i64 0), .v undef, .v undef] rfl
  refine callW_pure (c := c36) rfl rfl (n + 1) ?_
  rw [show c36.body = (.seq (.region [] [] c36_0) (.seq (.seq (.region [] [] c36_1) (.block 0 (.loop K36 [] c36_7))) (.seq (.region [] [] c36_8) .ret))) from rfl]
  generalize c36_7 = bb at g1 ⊢
  rcases g3 with ⟨rfl, g3⟩ | ⟨rfl, rfl, g3⟩
  · generalize (CC.seq (.region [] [] c36_8) .ret) = rest
    have g3' : getO v' [] (.var 2) = .v (.int .i64 (parts x y)) := g3
    simp only [c36, start, List.replicate, c36_0, c36_1, q1, q2, hm, g1, g3', Q0, Q1, Q2, Q3, Q4, Q5, Q6, Q7, Q8, Q9, Q10, Q11, Q12, Q13, Q14, Q15, Q16, Q17, Q18, Q19, Q20, Q21, Q22, Q23, Q24, Q25, Q26, Q27, Q28, Q29, Q30, Q31, Q32, Q33, Q35, Q36, Q37, Q38, Q39, Q40, Q41, Q42, Q43, Q44, Q45, Q46, Q47, Q48, Q49, Q50, Q51, Q52, Q53, Q54, Q55, Q56, Q57, Q58, Q59, Q60, Q61, Q62, Q63, Q64, Q65, Q66, Q67, Q68, Q69, Q70, Q71, Q72, Q73, Q99, Q100, Q101, Q102, Q103, Q74, Q75, Q77, Q78, Q79, Q80, Q81, Q82, Q83, Q84, clr, List.length_nil, List.length_cons, List.getElem?_cons_zero, List.getElem?_cons_succ, Nat.reduceAdd, Nat.zero_add, Nat.add_zero, Nat.reduceLeDiff, Nat.reduceSub, ↓reduceIte, List.drop_succ_cons, List.drop_zero, List.take_succ_cons, List.take_zero, Bool.false_eq_true, List.nil_append, List.cons_append, Bool.not_true, Bool.not_false, cond_true, cond_false, bne, Q85, Q86, Q87, Q88, Q89, Q90, Q91, Q92, Q93, Q94, Q95, Q96, Q97, Q98, Q110, Q111, Q116, Q117, Q118, Q119, Q120, Q121, Q122, Q123, Option.map_some, Option.map_none, Q34]
  · simp only [V36] at g1
    simp only [c36, start, List.replicate, c36_0, c36_1, c36_8, q1, q2, hm, g1, g3, Q0, Q1, Q2, Q3, Q4, Q5, Q6, Q7, Q8, Q9, Q10, Q11, Q12, Q13, Q14, Q15, Q16, Q17, Q18, Q19, Q20, Q21, Q22, Q23, Q24, Q25, Q26, Q27, Q28, Q29, Q30, Q31, Q32, Q33, Q35, Q36, Q37, Q38, Q39, Q40, Q41, Q42, Q43, Q44, Q45, Q46, Q47, Q48, Q49, Q50, Q51, Q52, Q53, Q54, Q55, Q56, Q57, Q58, Q59, Q60, Q61, Q62, Q63, Q64, Q65, Q66, Q67, Q68, Q69, Q70, Q71, Q72, Q73, Q99, Q100, Q101, Q102, Q103, Q74, Q75, Q77, Q78, Q79, Q80, Q81, Q82, Q83, Q84, clr, List.length_nil, List.length_cons, List.getElem?_cons_zero, List.getElem?_cons_succ, Nat.reduceAdd, Nat.zero_add, Nat.add_zero, Nat.reduceLeDiff, Nat.reduceSub, ↓reduceIte, List.drop_succ_cons, List.drop_zero, List.take_succ_cons, List.take_zero, Bool.false_eq_true, List.nil_append, List.cons_append, Bool.not_true, Bool.not_false, cond_true, cond_false, bne, Q85, Q86, Q87, Q88, Q89, Q90, Q91, Q92, Q93, Q94, Q95, Q96, Q97, Q98, Q110, Q111, Q116, Q117, Q118, Q119, Q120, Q121, Q122, Q123, Option.map_some, Option.map_none, Q34]
/-! ### How places compare -/
def cmpL : List Int → List Int → Int
  | [], [] => 0
  | [], _ :: _ => -1
  | _ :: _, [] => 1
  | a :: l, b :: m => if decide (a < b) = true then -1 else if decide (a > b) = true then 1 else cmpL l m
theorem cmp_parts : ∀ (l m : List Int), cmpL l m = if h : parts l m < l.length ∧ parts l m < m.length then cmpI (l[parts l m]'h.1) (m[parts l m]'h.2) else cmpI l.length m.length
  | [], [] => rfl
  | [], b :: m => by simp only [cmpL, parts, cmpI, List.length_nil, List.length_cons, Nat.not_lt_zero, false_and, dite_false, decide_eq_true_eq]; rw [if_pos (by omega)]
  | a :: l, [] => by simp only [cmpL, parts, cmpI, List.length_nil, List.length_cons, Nat.not_lt_zero, and_false, dite_false, decide_eq_true_eq]; rw [if_neg (by omega), if_pos (by omega)]
  | a :: l, b :: m => by
    have ih := cmp_parts l m
    rw [cmpL]
    by_cases h : a = b
    · subst h
      have hp : parts (a :: l) (a :: m) = parts l m + 1 := by rw [parts, if_pos rfl]
      rw [if_neg (by simp), if_neg (by simp), ih]
      by_cases h2 : parts l m < l.length ∧ parts l m < m.length
      · rw [dif_pos h2, dif_pos (by rw [hp]; simp only [List.length_cons]; omega)]
        simp only [hp, List.getElem_cons_succ]
      · rw [dif_neg h2, dif_neg (by rw [hp]; simp only [List.length_cons]; omega)]
        simp only [cmpI, List.length_cons, decide_eq_true_eq]
        repeat' split
        all_goals first | rfl | omega
    · have hp : parts (a :: l) (b :: m) = 0 := by rw [parts, if_neg h]
      rw [dif_pos (by rw [hp]; simp only [List.length_cons]; omega)]
      simp only [hp, List.getElem_cons_zero, cmpI, decide_eq_true_eq]
      by_cases h1 : a < b
      · rw [if_pos h1, if_pos h1]
      · rw [if_neg h1, if_neg h1, if_pos (by omega), if_pos (by omega)]
theorem compare_ok {c d : AV} {x y : List Int} (hc : Ns c x) (hd : Ns d y) : callW F 25 [c, d] [] = some (.v (.int .i64 (cmpL x y)), []) := by
  have q1 := fun H => hc.len H
  have q2 := fun H => hd.len H
  have s1 := fun H => hc.sn H
  have s2 := fun H => hd.sn H
  have p := parts_ok hc hd
  have hcp := cmp_parts x y
  obtain ⟨n, hn⟩ : ∃ n, n = parts x y := ⟨_, rfl⟩
  rw [← hn] at p
  refine callW_pure (c := c25) rfl rfl 0 ?_
  cases h1 : decide ((n : Int) < (x.length : Int)) with
  | false =>
    have := of_decide_eq_false h1
    rw [dif_neg (by omega)] at hcp
    have hk := cmpi_ok x.length y.length
    rw [← hcp] at hk
    simp only [c25, start, List.replicate, c25_0, c25_1, c25_2, c25_4, q1, q2, s1, s2, p, h1, hk, snap_int, Q0, Q1, Q2, Q3, Q4, Q5, Q6, Q7, Q8, Q9, Q10, Q11, Q12, Q13, Q14, Q15, Q16, Q17, Q18, Q19, Q20, Q21, Q22, Q23, Q24, Q25, Q26, Q27, Q28, Q29, Q30, Q31, Q32, Q33, Q35, Q36, Q37, Q38, Q39, Q40, Q41, Q42, Q43, Q44, Q45, Q46, Q47, Q48, Q49, Q50, Q51, Q52, Q53, Q54, Q55, Q56, Q57, Q58, Q59, Q60, Q61, Q62, Q63, Q64, Q65, Q66, Q67, Q68, Q69, Q70, Q71, Q72, Q73, Q99, Q100, Q101, Q102, Q103, Q74, Q75, Q77, Q78, Q79, Q80, Q81, Q82, Q83, Q84, clr, List.length_nil, List.length_cons, List.getElem?_cons_zero, List.getElem?_cons_succ, Nat.reduceAdd, Nat.zero_add, Nat.add_zero, Nat.reduceLeDiff, Nat.reduceSub, ↓reduceIte, List.drop_succ_cons, List.drop_zero, List.take_succ_cons, List.take_zero, Bool.false_eq_true, List.nil_append, List.cons_append, Bool.not_true, Bool.not_false, cond_true, cond_false, bne, Q85, Q86, Q87, Q88, Q89, Q90, Q91, Q92, Q93, Q94, Q95, Q96, Q97, Q98, Q110, Q111, Q116, Q117, Q118, Q119, Q120, Q121, Q122, Q123, Option.map_some, Option.map_none, Q34]
  | true =>
    have l1 := of_decide_eq_true h1
    cases h2 : decide ((n : Int) < (y.length : Int)) with
    | false =>
      have := of_decide_eq_false h2
      rw [dif_neg (by omega)] at hcp
      have hk := cmpi_ok x.length y.length
      rw [← hcp] at hk
      simp only [c25, start, List.replicate, c25_0, c25_1, c25_2, c25_4, q1, q2, s1, s2, p, h1, h2, hk, snap_int, Q0, Q1, Q2, Q3, Q4, Q5, Q6, Q7, Q8, Q9, Q10, Q11, Q12, Q13, Q14, Q15, Q16, Q17, Q18, Q19, Q20, Q21, Q22, Q23, Q24, Q25, Q26, Q27, Q28, Q29, Q30, Q31, Q32, Q33, Q35, Q36, Q37, Q38, Q39, Q40, Q41, Q42, Q43, Q44, Q45, Q46, Q47, Q48, Q49, Q50, Q51, Q52, Q53, Q54, Q55, Q56, Q57, Q58, Q59, Q60, Q61, Q62, Q63, Q64, Q65, Q66, Q67, Q68, Q69, Q70, Q71, Q72, Q73, Q99, Q100, Q101, Q102, Q103, Q74, Q75, Q77, Q78, Q79, Q80, Q81, Q82, Q83, Q84, clr, List.length_nil, List.length_cons, List.getElem?_cons_zero, List.getElem?_cons_succ, Nat.reduceAdd, Nat.zero_add, Nat.add_zero, Nat.reduceLeDiff, Nat.reduceSub, ↓reduceIte, List.drop_succ_cons, List.drop_zero, List.take_succ_cons, List.take_zero, Bool.false_eq_true, List.nil_append, List.cons_append, Bool.not_true, Bool.not_false, cond_true, cond_false, bne, Q85, Q86, Q87, Q88, Q89, Q90, Q91, Q92, Q93, Q94, Q95, Q96, Q97, Q98, Q110, Q111, Q116, Q117, Q118, Q119, Q120, Q121, Q122, Q123, Option.map_some, Option.map_none, Q34]
    | true =>
      have l2 := of_decide_eq_true h2
      have b1 : n < x.length := by omega
      have b2 : n < y.length := by omega
      rw [dif_pos (by omega)] at hcp
      subst hn
      have e1 := fun H => hc.at b1 H
      have e2 := fun H => hd.at b2 H
      have hk := cmpi_ok x[parts x y] y[parts x y]
      rw [← hcp] at hk
      simp only [c25, start, List.replicate, c25_0, c25_1, c25_2, c25_3, q1, q2, s1, s2, p, h1, h2, e1, e2, iv_ld, hk, snap_int, Q0, Q1, Q2, Q3, Q4, Q5, Q6, Q7, Q8, Q9, Q10, Q11, Q12, Q13, Q14, Q15, Q16, Q17, Q18, Q19, Q20, Q21, Q22, Q23, Q24, Q25, Q26, Q27, Q28, Q29, Q30, Q31, Q32, Q33, Q35, Q36, Q37, Q38, Q39, Q40, Q41, Q42, Q43, Q44, Q45, Q46, Q47, Q48, Q49, Q50, Q51, Q52, Q53, Q54, Q55, Q56, Q57, Q58, Q59, Q60, Q61, Q62, Q63, Q64, Q65, Q66, Q67, Q68, Q69, Q70, Q71, Q72, Q73, Q99, Q100, Q101, Q102, Q103, Q74, Q75, Q77, Q78, Q79, Q80, Q81, Q82, Q83, Q84, clr, List.length_nil, List.length_cons, List.getElem?_cons_zero, List.getElem?_cons_succ, Nat.reduceAdd, Nat.zero_add, Nat.add_zero, Nat.reduceLeDiff, Nat.reduceSub, ↓reduceIte, List.drop_succ_cons, List.drop_zero, List.take_succ_cons, List.take_zero, Bool.false_eq_true, List.nil_append, List.cons_append, Bool.not_true, Bool.not_false, cond_true, cond_false, bne, Q85, Q86, Q87, Q88, Q89, Q90, Q91, Q92, Q93, Q94, Q95, Q96, Q97, Q98, Q110, Q111, Q116, Q117, Q118, Q119, Q120, Q121, Q122, Q123, Option.map_some, Option.map_none, Q34]
theorem rcompare_ok : ∀ {x y : List Int} {c d : AV}, Ns c x → Ns d y → callW F 14 [c, d] [] = some (.v (.int .i64 (cmpL x y)), [])
  | [], [], c, d, hc, hd => by
    have q1 := fun H => hc.len H
    have q2 := fun H => hd.len H
    simp only [List.length_nil] at q1 q2
    have z : (((0 : Nat) : Int) == 0) = true := rfl
    refine callW_pure (c := c14) rfl rfl 0 ?_
    simp only [c14, start, List.replicate, c14_0, c14_1, c14_2, q1, q2, z, cmpL, Q0, Q1, Q2, Q3, Q4, Q5, Q6, Q7, Q8, Q9, Q10, Q11, Q12, Q13, Q14, Q15, Q16, Q17, Q18, Q19, Q20, Q21, Q22, Q23, Q24, Q25, Q26, Q27, Q28, Q29, Q30, Q31, Q32, Q33, Q35, Q36, Q37, Q38, Q39, Q40, Q41, Q42, Q43, Q44, Q45, Q46, Q47, Q48, Q49, Q50, Q51, Q52, Q53, Q54, Q55, Q56, Q57, Q58, Q59, Q60, Q61, Q62, Q63, Q64, Q65, Q66, Q67, Q68, Q69, Q70, Q71, Q72, Q73, Q99, Q100, Q101, Q102, Q103, Q74, Q75, Q77, Q78, Q79, Q80, Q81, Q82, Q83, Q84, clr, List.length_nil, List.length_cons, List.getElem?_cons_zero, List.getElem?_cons_succ, Nat.reduceAdd, Nat.zero_add, Nat.add_zero, Nat.reduceLeDiff, Nat.reduceSub, ↓reduceIte, List.drop_succ_cons, List.drop_zero, List.take_succ_cons, List.take_zero, Bool.false_eq_true, List.nil_append, List.cons_append, Bool.not_true, Bool.not_false, cond_true, cond_false, bne, Q85, Q86, Q87, Q88, Q89, Q90, Q91, Q92, Q93, Q94, Q95, Q96, Q97, Q98, Q110, Q111, Q116, Q117, Q118, Q119, Q120, Q121, Q122, Q123, Option.map_some, Option.map_none, Q34]
  | [], b :: m, c, d, hc, hd => by
    have q1 := fun H => hc.len H
    have q2 := fun H => hd.len H
    have z : ((([] : List Int).length : Int) == 0) = true := rfl
    have z2 : (((b :: m).length : Int) == 0) = false := by simp; omega
    refine callW_pure (c := c14) rfl rfl 0 ?_
    generalize (b :: m).length = n2 at q2 z2
    generalize ([] : List Int).length = n1 at q1 z
    simp only [c14, start, List.replicate, c14_0, c14_1, c14_3, c14_4, q1, q2, z, z2, cmpL, Q0, Q1, Q2, Q3, Q4, Q5, Q6, Q7, Q8, Q9, Q10, Q11, Q12, Q13, Q14, Q15, Q16, Q17, Q18, Q19, Q20, Q21, Q22, Q23, Q24, Q25, Q26, Q27, Q28, Q29, Q30, Q31, Q32, Q33, Q35, Q36, Q37, Q38, Q39, Q40, Q41, Q42, Q43, Q44, Q45, Q46, Q47, Q48, Q49, Q50, Q51, Q52, Q53, Q54, Q55, Q56, Q57, Q58, Q59, Q60, Q61, Q62, Q63, Q64, Q65, Q66, Q67, Q68, Q69, Q70, Q71, Q72, Q73, Q99, Q100, Q101, Q102, Q103, Q74, Q75, Q77, Q78, Q79, Q80, Q81, Q82, Q83, Q84, clr, List.length_nil, List.length_cons, List.getElem?_cons_zero, List.getElem?_cons_succ, Nat.reduceAdd, Nat.zero_add, Nat.add_zero, Nat.reduceLeDiff, Nat.reduceSub, ↓reduceIte, List.drop_succ_cons, List.drop_zero, List.take_succ_cons, List.take_zero, Bool.false_eq_true, List.nil_append, List.cons_append, Bool.not_true, Bool.not_false, cond_true, cond_false, bne, Q85, Q86, Q87, Q88, Q89, Q90, Q91, Q92, Q93, Q94, Q95, Q96, Q97, Q98, Q110, Q111, Q116, Q117, Q118, Q119, Q120, Q121, Q122, Q123, Option.map_some, Option.map_none, Q34]
  | a :: l, [], c, d, hc, hd => by
    have q1 := fun H => hc.len H
    have q2 := fun H => hd.len H
    have z : ((([] : List Int).length : Int) == 0) = true := rfl
    have z2 : (((a :: l).length : Int) == 0) = false := by simp; omega
    refine callW_pure (c := c14) rfl rfl 0 ?_
    generalize (a :: l).length = n2 at q1 z2
    generalize ([] : List Int).length = n1 at q2 z
    simp only [c14, start, List.replicate, c14_0, c14_1, c14_3, c14_5, c14_6, q1, q2, z, z2, cmpL, Q0, Q1, Q2, Q3, Q4, Q5, Q6, Q7, Q8, Q9, Q10, Q11, Q12, Q13, Q14, Q15, Q16, Q17, Q18, Q19, Q20, Q21, Q22, Q23, Q24, Q25, Q26, Q27, Q28, Q29, Q30, Q31, Q32, Q33, Q35, Q36, Q37, Q38, Q39, Q40, Q41, Q42, Q43, Q44, Q45, Q46, Q47, Q48, Q49, Q50, Q51, Q52, Q53, Q54, Q55, Q56, Q57, Q58, Q59, Q60, Q61, Q62, Q63, Q64, Q65, Q66, Q67, Q68, Q69, Q70, Q71, Q72, Q73, Q99, Q100, Q101, Q102, Q103, Q74, Q75, Q77, Q78, Q79, Q80, Q81, Q82, Q83, Q84, clr, List.length_nil, List.length_cons, List.getElem?_cons_zero, List.getElem?_cons_succ, Nat.reduceAdd, Nat.zero_add, Nat.add_zero, Nat.reduceLeDiff, Nat.reduceSub, ↓reduceIte, List.drop_succ_cons, List.drop_zero, List.take_succ_cons, List.take_zero, Bool.false_eq_true, List.nil_append, List.cons_append, Bool.not_true, Bool.not_false, cond_true, cond_false, bne, Q85, Q86, Q87, Q88, Q89, Q90, Q91, Q92, Q93, Q94, Q95, Q96, Q97, Q98, Q110, Q111, Q116, Q117, Q118, Q119, Q120, Q121, Q122, Q123, Option.map_some, Option.map_none, Q34]
  | a :: l, b :: m, c, d, hc, hd => by
    have q1 := fun H => hc.len H
    have q2 := fun H => hd.len H
    have e1 := fun H => hc.at (i := 0) (by simp) H
    have e2 := fun H => hd.at (i := 0) (by simp) H
    simp only [List.getElem_cons_zero] at e1 e2
    have z1 : (((a :: l).length : Int) == 0) = false := by simp; omega
    have z2 : (((b :: m).length : Int) == 0) = false := by simp; omega
    refine callW_pure (c := c14) rfl rfl 0 ?_
    have n1 : natV (.v (.int .i64 0)) = some 0 := rfl
    have n2 : natV (.v (.int .i64 1)) = some 1 := rfl
    rw [cmpL]
    obtain ⟨c', t1, t2⟩ := hc.tail []
    obtain ⟨d', t3, t4⟩ := hd.tail []
    have s1 := fun H => t2.sn H
    have s2 := fun H => t4.sn H
    have ih := rcompare_ok t2 t4
    generalize (a :: l).length = n1' at q1 z1
    generalize (b :: m).length = n2' at q2 z2
    cases h1 : decide (a < b) with
    | true => simp only [c14, start, List.replicate, c14_0, c14_1, c14_3, c14_5, c14_7, c14_8, q1, q2, z1, z2, e1, e2, n1, iv_ld, h1, Q0, Q1, Q2, Q3, Q4, Q5, Q6, Q7, Q8, Q9, Q10, Q11, Q12, Q13, Q14, Q15, Q16, Q17, Q18, Q19, Q20, Q21, Q22, Q23, Q24, Q25, Q26, Q27, Q28, Q29, Q30, Q31, Q32, Q33, Q35, Q36, Q37, Q38, Q39, Q40, Q41, Q42, Q43, Q44, Q45, Q46, Q47, Q48, Q49, Q50, Q51, Q52, Q53, Q54, Q55, Q56, Q57, Q58, Q59, Q60, Q61, Q62, Q63, Q64, Q65, Q66, Q67, Q68, Q69, Q70, Q71, Q72, Q73, Q99, Q100, Q101, Q102, Q103, Q74, Q75, Q77, Q78, Q79, Q80, Q81, Q82, Q83, Q84, clr, List.length_nil, List.length_cons, List.getElem?_cons_zero, List.getElem?_cons_succ, Nat.reduceAdd, Nat.zero_add, Nat.add_zero, Nat.reduceLeDiff, Nat.reduceSub, ↓reduceIte, List.drop_succ_cons, List.drop_zero, List.take_succ_cons, List.take_zero, Bool.false_eq_true, List.nil_append, List.cons_append, Bool.not_true, Bool.not_false, cond_true, cond_false, bne, Q85, Q86, Q87, Q88, Q89, Q90, Q91, Q92, Q93, Q94, Q95, Q96, Q97, Q98, Q110, Q111, Q116, Q117, Q118, Q119, Q120, Q121, Q122, Q123, Option.map_some, Option.map_none, Q34]
    | false =>
      cases h2 : decide (a > b) with
      | true => simp only [c14, start, List.replicate, c14_0, c14_1, c14_3, c14_5, c14_7, c14_9, c14_10, q1, q2, z1, z2, e1, e2, n1, iv_ld, h1, h2, Q0, Q1, Q2, Q3, Q4, Q5, Q6, Q7, Q8, Q9, Q10, Q11, Q12, Q13, Q14, Q15, Q16, Q17, Q18, Q19, Q20, Q21, Q22, Q23, Q24, Q25, Q26, Q27, Q28, Q29, Q30, Q31, Q32, Q33, Q35, Q36, Q37, Q38, Q39, Q40, Q41, Q42, Q43, Q44, Q45, Q46, Q47, Q48, Q49, Q50, Q51, Q52, Q53, Q54, Q55, Q56, Q57, Q58, Q59, Q60, Q61, Q62, Q63, Q64, Q65, Q66, Q67, Q68, Q69, Q70, Q71, Q72, Q73, Q99, Q100, Q101, Q102, Q103, Q74, Q75, Q77, Q78, Q79, Q80, Q81, Q82, Q83, Q84, clr, List.length_nil, List.length_cons, List.getElem?_cons_zero, List.getElem?_cons_succ, Nat.reduceAdd, Nat.zero_add, Nat.add_zero, Nat.reduceLeDiff, Nat.reduceSub, ↓reduceIte, List.drop_succ_cons, List.drop_zero, List.take_succ_cons, List.take_zero, Bool.false_eq_true, List.nil_append, List.cons_append, Bool.not_true, Bool.not_false, cond_true, cond_false, bne, Q85, Q86, Q87, Q88, Q89, Q90, Q91, Q92, Q93, Q94, Q95, Q96, Q97, Q98, Q110, Q111, Q116, Q117, Q118, Q119, Q120, Q121, Q122, Q123, Option.map_some, Option.map_none, Q34]
      | false => simp only [c14, start, List.replicate, c14_0, c14_1, c14_3, c14_5, c14_7, c14_9, c14_11, q1, q2, z1, z2, e1, e2, n1, n2, iv_ld, h1, h2, t1, t3, s1, s2, ih, Q0, Q1, Q2, Q3, Q4, Q5, Q6, Q7, Q8, Q9, Q10, Q11, Q12, Q13, Q14, Q15, Q16, Q17, Q18, Q19, Q20, Q21, Q22, Q23, Q24, Q25, Q26, Q27, Q28, Q29, Q30, Q31, Q32, Q33, Q35, Q36, Q37, Q38, Q39, Q40, Q41, Q42, Q43, Q44, Q45, Q46, Q47, Q48, Q49, Q50, Q51, Q52, Q53, Q54, Q55, Q56, Q57, Q58, Q59, Q60, Q61, Q62, Q63, Q64, Q65, Q66, Q67, Q68, Q69, Q70, Q71, Q72, Q73, Q99, Q100, Q101, Q102, Q103, Q74, Q75, Q77, Q78, Q79, Q80, Q81, Q82, Q83, Q84, clr, List.length_nil, List.length_cons, List.getElem?_cons_zero, List.getElem?_cons_succ, Nat.reduceAdd, Nat.zero_add, Nat.add_zero, Nat.reduceLeDiff, Nat.reduceSub, ↓reduceIte, List.drop_succ_cons, List.drop_zero, List.take_succ_cons, List.take_zero, Bool.false_eq_true, List.nil_append, List.cons_append, Bool.not_true, Bool.not_false, cond_true, cond_false, bne, Q85, Q86, Q87, Q88, Q89, Q90, Q91, Q92, Q93, Q94, Q95, Q96, Q97, Q98, Q110, Q111, Q116, Q117, Q118, Q119, Q120, Q121, Q122, Q123, Option.map_some, Option.map_none, Q34]
end Go.AE.Ytkdjdhfoodlnfaa
end

/-! Terms that are the same: the document's. -/
section
set_option linter.unusedVariables false
set_option linter.unusedSimpArgs false
namespace Go.AE.Ytkdjdhfoodlnfaa
open Go Go.AE Go.Proofs.Ytkdjdhfoodlnfaa

def tb (k n : Int) (s : ByteArray) (c : AV) : AO := .box 66 [.v (.int .i64 k), .v (.string s), .v (.int .i64 n), c]
section
variable {k n : Int} {s : ByteArray} {c : AV} {G : List AO}
theorem tb0 : Q76 (tb k n s c :: G) false 1 (.ptr 0 0) = some (.v (.int .i64 k)) := rfl
theorem tb1 : Q76 (tb k n s c :: G) false 1 (.ptr 0 1) = some (.v (.string s)) := rfl
theorem tb2 : Q76 (tb k n s c :: G) false 1 (.ptr 0 2) = some (.v (.int .i64 n)) := rfl
theorem tb3 : Q76 (tb k n s c :: G) false 1 (.ptr 0 3) = some c := rfl
theorem tb4 : Q76 (tb k n s c :: G) true 4 (.ptr 0 0) = some (.agg [.v (.int .i64 k), .v (.string s), .v (.int .i64 n), c]) := rfl
theorem tbx : bx [] 66 (some [.v (.int .i64 k), .v (.string s), .v (.int .i64 n), c]) = some (.ptr 0 0, [tb k n s c]) := rfl
variable {k' n' : Int} {s' : ByteArray} {c' : AV}
theorem tc0 : Q76 (tb k n s c :: tb k' n' s' c' :: G) false 1 (.ptr 1 0) = some (.v (.int .i64 k')) := rfl
theorem tc1 : Q76 (tb k n s c :: tb k' n' s' c' :: G) false 1 (.ptr 1 1) = some (.v (.string s')) := rfl
theorem tc2 : Q76 (tb k n s c :: tb k' n' s' c' :: G) false 1 (.ptr 1 2) = some (.v (.int .i64 n')) := rfl
theorem tc3 : Q76 (tb k n s c :: tb k' n' s' c' :: G) false 1 (.ptr 1 3) = some c' := rfl
theorem tcx : bx [tb k n s c] 66 (some [.v (.int .i64 k'), .v (.string s'), .v (.int .i64 n'), c']) = some (.ptr 1 0, [tb k n s c, tb k' n' s' c']) := rfl
end
def headS (k : Int) (s : ByteArray) (n : Int) (l : List Tm) (k' : Int) (s' : ByteArray) (n' : Int) (l' : List Tm) : Bool := (k == k') && ((n == n') && ((s.toList == s'.toList) && ((l.length : Int) == (l'.length : Int))))
mutual
def sameT : Tm → Tm → Bool
  | .mk k s n l, .mk k' s' n' l' => headS k s n l k' s' n' l' && sameL l l'
def sameL : List Tm → List Tm → Bool
  | [], _ => true
  | _, [] => true
  | a :: l, b :: l' => sameT a b && sameL l l'
end
theorem headS_len {k n k' n' : Int} {s s' : ByteArray} {l l' : List Tm} (h : headS k s n l k' s' n' l' = true) : l.length = l'.length := by
  simp only [headS, Bool.and_eq_true, beq_iff_eq] at h
  omega
theorem toL_inj {s s' : ByteArray} (h : s.toList = s'.toList) : s = s' := by
  rw [ByteArray.toList_eq, ByteArray.toList_eq] at h
  cases s with | mk d => cases s' with | mk d' => cases d with | mk x => cases d' with | mk y => simp at h; rw [h]
theorem same_iff : ∀ (N : Nat) (t u : Tm), SizeOf.sizeOf t < N → (sameT t u = true ↔ t = u) := by
  intro N
  induction N with
  | zero => intro t u h; omega
  | succ N ih =>
    have hl : ∀ (l m : List Tm), SizeOf.sizeOf l < N + 1 → l.length = m.length → (sameL l m = true ↔ l = m) := by
      intro l
      induction l with
      | nil =>
        intro m _ h1
        cases m with
        | nil => simp [sameL]
        | cons => simp at h1
      | cons x l ihl =>
        intro m hs h1
        cases m with
        | nil => simp at h1
        | cons y m =>
        simp only [List.length_cons, Nat.add_right_cancel_iff, List.cons.sizeOf_spec] at h1 hs
        rw [sameL, Bool.and_eq_true, ih x y (by omega), ihl m (by omega) h1, List.cons.injEq]
    rintro ⟨k, s, n, l⟩ ⟨k', s', n', l'⟩ hs
    simp only [Tm.mk.sizeOf_spec] at hs
    rw [sameT, Bool.and_eq_true, Tm.mk.injEq]
    constructor
    · rintro ⟨h1, h2⟩
      have h3 := headS_len h1
      simp only [headS, Bool.and_eq_true, beq_iff_eq] at h1
      exact ⟨h1.1, toL_inj h1.2.2.1, h1.2.1, (hl l l' (by omega) h3).1 h2⟩
    · rintro ⟨rfl, rfl, rfl, rfl⟩
      exact ⟨by simp [headS], (hl l l (by omega) rfl).2 rfl⟩

def V46 (n i : Int) (x5 x9 x10 : AV) : List AV := [.junk, .junk, .ptr 0 0, .ptr 1 0, .junk, x5, .junk, .v (.int .i64 n), .v (.int .i64 i), x9, x10]
def K46 : List Bool := [false, false, true, true, false, false, false, true, true, false, false]
theorem tsame_ok : ∀ (N : Nat) (t u : Tm) (a b : AV), SizeOf.sizeOf t < N → IsT a t → IsT b u → callW F 46 [a, b] [] = some (.v (.bool (sameT t u)), []) := by
  intro N
  induction N with
  | zero => intro t u a b h; omega
  | succ N ih =>
    intro t u a b hN ha hb
    cases ha with
    | mk k s n c l hc =>
    cases hb with
    | mk k' s' n' c' l' hc' =>
    obtain ⟨es, hs, hes, hm⟩ := hc.sl
    obtain ⟨es', hs', hes', hm'⟩ := hc'.sl
    have hll := hes.length
    have hll' := hes'.length
    refine callW_pure (c := c46) rfl rfl (l.length + 1) ?_
    have q1 := fun h : List AO => hs.len h
    have q1' := fun h : List AO => hs'.len h
    rw [hll] at q1
    rw [hll'] at q1'
    rw [sameT]
    have hlen : headS k s n l k' s' n' l' = true → l.length = l'.length := headS_len
    have loop : l.length = l'.length → ∀ (v : List AV), clr K46 v = V46 l.length 0 .junk .junk .junk → (sameL l l' = true ∧ loopN (exec (callW F) (l.length + 1) c46_9) K46 (l.length + 1) v [tb k n s c, tb k' n' s' c'] = some (.exit 0, V46 l.length l.length .junk (.v (.bool false)) .junk, [tb k n s c, tb k' n' s' c'])) ∨
        (sameL l l' = false ∧ ∃ v' h, loopN (exec (callW F) (l.length + 1) c46_9) K46 (l.length + 1) v [tb k n s c, tb k' n' s' c'] = some (.ret, v', h) ∧ getO v' [] (.var 4) = .v (.bool false)) := by
      intro hleq v hv
      obtain ⟨e, v', h', g1, g2, g3⟩ := loop_rule0 (call := callW F) (K := l.length + 1) (b := c46_9) (keep := K46)
        (fun i v h => v = V46 l.length i .junk .junk .junk ∧ h = [tb k n s c, tb k' n' s' c'] ∧ sameL (l.drop i) (l'.drop i) = sameL l l')
        (fun e v h => (e = .exit 0 ∧ sameL l l' = true ∧ v = V46 l.length l.length .junk (.v (.bool false)) .junk ∧ h = [tb k n s c, tb k' n' s' c']) ∨ (e = .ret ∧ sameL l l' = false ∧ getO v [] (.var 4) = .v (.bool false)))
        l.length (m := l.length + 1) (v := v) (h := [tb k n s c, tb k' n' s' c']) (by omega) ⟨hv, rfl, rfl⟩ (by
          rintro i v h hi ⟨rfl, rfl, hR⟩
          by_cases hil : i < l.length
          · have hil' : i < l'.length := by omega
            have hle : i < es.length := by omega
            have hle' : i < es'.length := by omega
            have hT := hes.at hle hil
            have hT' := hes'.at hle' hil'
            have hlt := lt_t hil
            have he : es[i]? = some es[i] := List.getElem?_eq_getElem hle
            have he' : es'[i]? = some es'[i] := List.getElem?_eq_getElem hle'
            have q2 := fun h : List AO => hs.ia he h
            have q2' := fun h : List AO => hs'.ia he' h
            have hf := hT.facts
            have hf' := hT'.facts
            have hd : l.drop i = l[i] :: l.drop (i + 1) := List.drop_eq_getElem_cons hil
            have hd' : l'.drop i = l'[i] :: l'.drop (i + 1) := List.drop_eq_getElem_cons hil'
            have hw := wrap_succ hle hm
            have hc := ih l[i] l'[i] es[i] es'[i] (by have := IsL.mem_size (k := k) (n := n) (s := s) (List.getElem_mem hil); omega) hT hT'
            rw [hd, hd', sameL] at hR
            cases hq : sameT l[i] l'[i] with
            | true =>
              rw [hq, Bool.true_and] at hR
              rw [hq] at hc
              refine ⟨.normal, V46 l.length ((i + 1 : Nat) : Int) (.v (.int .i64 i)) (.v (.bool true)) (.v (.bool false)), [tb k n s c, tb k' n' s' c'], ?_, hil, rfl, rfl, hR⟩
              simp only [V46, c46_9, c46_4, c46_5, c46_6, c46_8, hlt, q2, q2', hf, hf', hc, hw, tb3, tc3, Q0, Q1, Q2, Q3, Q4, Q5, Q6, Q7, Q8, Q9, Q10, Q11, Q12, Q13, Q14, Q15, Q16, Q17, Q18, Q19, Q20, Q21, Q22, Q23, Q24, Q25, Q26, Q27, Q28, Q29, Q30, Q31, Q32, Q33, Q35, Q36, Q37, Q38, Q39, Q40, Q41, Q42, Q43, Q44, Q45, Q46, Q47, Q48, Q49, Q50, Q51, Q52, Q53, Q54, Q55, Q56, Q57, Q58, Q59, Q60, Q61, Q62, Q63, Q64, Q65, Q66, Q67, Q68, Q69, Q70, Q71, Q72, Q73, Q99, Q100, Q101, Q102, Q103, Q74, Q75, Q77, Q78, Q79, Q80, Q81, Q82, Q83, Q84, clr, List.length_nil, List.length_cons, List.getElem?_cons_zero, List.getElem?_cons_succ, Nat.reduceAdd, Nat.zero_add, Nat.add_zero, Nat.reduceLeDiff, Nat.reduceSub, ↓reduceIte, List.drop_succ_cons, List.drop_zero, List.take_succ_cons, List.take_zero, Bool.false_eq_true, List.nil_append, List.cons_append, Bool.not_true, Bool.not_false, cond_true, cond_false, bne, Q85, Q86, Q87, Q88, Q89, Q90, Q91, Q92, Q93, Q94, Q95, Q96, Q97, Q98, Q110, Q111, Q116, Q117, Q118, Q119, Q120, Q121, Q122, Q123, Option.map_some, Option.map_none, Q34]
            | false =>
              rw [hq, Bool.false_and] at hR
              rw [hq] at hc
              refine ⟨.ret, [.junk, .junk, .ptr 0 0, .ptr 1 0, .v (.bool false), .v (.int .i64 i), .junk, .v (.int .i64 l.length), .v (.int .i64 i), .v (.bool true), .v (.bool true)], [tb k n s c, tb k' n' s' c'], ?_, .inr ⟨rfl, hR.symm, rfl⟩⟩
              simp only [V46, c46_9, c46_4, c46_5, c46_6, c46_7, hlt, q2, q2', hf, hf', hc, hw, tb3, tc3, Q0, Q1, Q2, Q3, Q4, Q5, Q6, Q7, Q8, Q9, Q10, Q11, Q12, Q13, Q14, Q15, Q16, Q17, Q18, Q19, Q20, Q21, Q22, Q23, Q24, Q25, Q26, Q27, Q28, Q29, Q30, Q31, Q32, Q33, Q35, Q36, Q37, Q38, Q39, Q40, Q41, Q42, Q43, Q44, Q45, Q46, Q47, Q48, Q49, Q50, Q51, Q52, Q53, Q54, Q55, Q56, Q57, Q58, Q59, Q60, Q61, Q62, Q63, Q64, Q65, Q66, Q67, Q68, Q69, Q70, Q71, Q72, Q73, Q99, Q100, Q101, Q102, Q103, Q74, Q75, Q77, Q78, Q79, Q80, Q81, Q82, Q83, Q84, clr, List.length_nil, List.length_cons, List.getElem?_cons_zero, List.getElem?_cons_succ, Nat.reduceAdd, Nat.zero_add, Nat.add_zero, Nat.reduceLeDiff, Nat.reduceSub, ↓reduceIte, List.drop_succ_cons, List.drop_zero, List.take_succ_cons, List.take_zero, Bool.false_eq_true, List.nil_append, List.cons_append, Bool.not_true, Bool.not_false, cond_true, cond_false, bne, Q85, Q86, Q87, Q88, Q89, Q90, Q91, Q92, Q93, Q94, Q95, Q96, Q97, Q98, Q110, Q111, Q116, Q117, Q118, Q119, Q120, Q121, Q122, Q123, Option.map_some, Option.map_none, Q34]
          · have hie : i = l.length := by omega
            subst hie
            have hlt := lt_f (n := l.length)
            rw [List.drop_of_length_le (Nat.le_refl _), sameL] at hR
            refine ⟨.exit 0, V46 l.length l.length .junk (.v (.bool false)) .junk, _, ?_, .inl ⟨rfl, hR.symm, rfl, rfl⟩⟩
            simp only [V46, c46_9, c46_4, hlt, Q0, Q1, Q2, Q3, Q4, Q5, Q6, Q7, Q8, Q9, Q10, Q11, Q12, Q13, Q14, Q15, Q16, Q17, Q18, Q19, Q20, Q21, Q22, Q23, Q24, Q25, Q26, Q27, Q28, Q29, Q30, Q31, Q32, Q33, Q35, Q36, Q37, Q38, Q39, Q40, Q41, Q42, Q43, Q44, Q45, Q46, Q47, Q48, Q49, Q50, Q51, Q52, Q53, Q54, Q55, Q56, Q57, Q58, Q59, Q60, Q61, Q62, Q63, Q64, Q65, Q66, Q67, Q68, Q69, Q70, Q71, Q72, Q73, Q99, Q100, Q101, Q102, Q103, Q74, Q75, Q77, Q78, Q79, Q80, Q81, Q82, Q83, Q84, clr, List.length_nil, List.length_cons, List.getElem?_cons_zero, List.getElem?_cons_succ, Nat.reduceAdd, Nat.zero_add, Nat.add_zero, Nat.reduceLeDiff, Nat.reduceSub, ↓reduceIte, List.drop_succ_cons, List.drop_zero, List.take_succ_cons, List.take_zero, Bool.false_eq_true, List.nil_append, List.cons_append, Bool.not_true, Bool.not_false, cond_true, cond_false, bne, Q85, Q86, Q87, Q88, Q89, Q90, Q91, Q92, Q93, Q94, Q95, Q96, Q97, Q98, Q110, Q111, Q116, Q117, Q118, Q119, Q120, Q121, Q122, Q123, Option.map_some, Option.map_none, Q34])
      rcases g3 with ⟨rfl, h1, rfl, rfl⟩ | ⟨rfl, h1, h2⟩
      · exact .inl ⟨h1, g1⟩
      · exact .inr ⟨h1, v', h', g1, h2⟩
    rw [show c46.body = (.seq (.region [] [] c46_0) (.seq (.seq (.region [] [] c46_1) (.cond (.var 6) (.seq (.region [] [] c46_2) .ret) .skip)) (.seq (.seq (.region [] [] c46_3) (.block 0 (.loop K46 [] c46_9))) (.seq (.region [] [] c46_10) .ret)))) from rfl, show c46.res = [.var 4] from rfl]
    rw [show start c46 [.agg [.v (.int .i64 k), .v (.string s), .v (.int .i64 n), c], .agg [.v (.int .i64 k'), .v (.string s'), .v (.int .i64 n'), c']] = [.agg [.v (.int .i64 k), .v (.string s), .v (.int .i64 n), c], .agg [.v (.int .i64 k'), .v (.string s'), .v (.int .i64 n'), c'], .v undef, .v undef, .v undef, .v undef, .v undef, .v undef, .v undef, .v undef, .v undef] from rfl]
    generalize c46_9 = bb at loop ⊢
    cases hc0 : headS k s n l k' s' n' l' with
    | false =>
      unfold headS at hc0
      cases h1 : (k == k') <;> cases h2 : (n == n') <;> cases h3 : (s.toList == s'.toList) <;> cases h4 : ((l.length : Int) == (l'.length : Int)) <;>
        (simp only [h1, h2, h3, h4, Bool.and_true, Bool.and_false, Bool.false_and, Bool.true_and, Bool.and_self, reduceCtorEq] at hc0) <;>
        simp only [c46_0, c46_1, c46_2, tbx, tcx, tb0, tb1, tb2, tb3, tc0, tc1, tc2, tc3, q1, q1', h1, h2, h3, h4, Bool.not_true, Bool.not_false, Bool.false_and, Q0, Q1, Q2, Q3, Q4, Q5, Q6, Q7, Q8, Q9, Q10, Q11, Q12, Q13, Q14, Q15, Q16, Q17, Q18, Q19, Q20, Q21, Q22, Q23, Q24, Q25, Q26, Q27, Q28, Q29, Q30, Q31, Q32, Q33, Q35, Q36, Q37, Q38, Q39, Q40, Q41, Q42, Q43, Q44, Q45, Q46, Q47, Q48, Q49, Q50, Q51, Q52, Q53, Q54, Q55, Q56, Q57, Q58, Q59, Q60, Q61, Q62, Q63, Q64, Q65, Q66, Q67, Q68, Q69, Q70, Q71, Q72, Q73, Q99, Q100, Q101, Q102, Q103, Q74, Q75, Q77, Q78, Q79, Q80, Q81, Q82, Q83, Q84, clr, List.length_nil, List.length_cons, List.getElem?_cons_zero, List.getElem?_cons_succ, Nat.reduceAdd, Nat.zero_add, Nat.add_zero, Nat.reduceLeDiff, Nat.reduceSub, ↓reduceIte, List.drop_succ_cons, List.drop_zero, List.take_succ_cons, List.take_zero, Bool.false_eq_true, List.nil_append, List.cons_append, Bool.not_true, Bool.not_false, cond_true, cond_false, bne, Q85, Q86, Q87, Q88, Q89, Q90, Q91, Q92, Q93, Q94, Q95, Q96, Q97, Q98, Q110, Q111, Q116, Q117, Q118, Q119, Q120, Q121, Q122, Q123, Option.map_some, Option.map_none]
    | true =>
      have lp := loop (hlen hc0) [.agg [.v (.int .i64 k), .v (.string s), .v (.int .i64 n), c], .agg [.v (.int .i64 k'), .v (.string s'), .v (.int .i64 n'), c'], .ptr 0 0, .ptr 1 0, .v (.bool false), .v undef, .v (.bool false), .v (.int .i64 l.length), .v (.int .i64 0), .v undef, .v undef] rfl
      simp only [headS, Bool.and_eq_true] at hc0
      obtain ⟨h1, h2, h3, h4⟩ := hc0
      rcases lp with ⟨p0, p1⟩ | ⟨p0, v', h', p1, p2⟩
      · rw [p0]
        simp only [V46, c46_0, c46_1, c46_3, c46_10, tbx, tcx, tb0, tb1, tb2, tb3, tc0, tc1, tc2, tc3, q1, q1', h1, h2, h3, h4, p1, Bool.not_true, Bool.not_false, Bool.true_and, Q0, Q1, Q2, Q3, Q4, Q5, Q6, Q7, Q8, Q9, Q10, Q11, Q12, Q13, Q14, Q15, Q16, Q17, Q18, Q19, Q20, Q21, Q22, Q23, Q24, Q25, Q26, Q27, Q28, Q29, Q30, Q31, Q32, Q33, Q35, Q36, Q37, Q38, Q39, Q40, Q41, Q42, Q43, Q44, Q45, Q46, Q47, Q48, Q49, Q50, Q51, Q52, Q53, Q54, Q55, Q56, Q57, Q58, Q59, Q60, Q61, Q62, Q63, Q64, Q65, Q66, Q67, Q68, Q69, Q70, Q71, Q72, Q73, Q99, Q100, Q101, Q102, Q103, Q74, Q75, Q77, Q78, Q79, Q80, Q81, Q82, Q83, Q84, clr, List.length_nil, List.length_cons, List.getElem?_cons_zero, List.getElem?_cons_succ, Nat.reduceAdd, Nat.zero_add, Nat.add_zero, Nat.reduceLeDiff, Nat.reduceSub, ↓reduceIte, List.drop_succ_cons, List.drop_zero, List.take_succ_cons, List.take_zero, Bool.false_eq_true, List.nil_append, List.cons_append, Bool.not_true, Bool.not_false, cond_true, cond_false, bne, Q85, Q86, Q87, Q88, Q89, Q90, Q91, Q92, Q93, Q94, Q95, Q96, Q97, Q98, Q110, Q111, Q116, Q117, Q118, Q119, Q120, Q121, Q122, Q123, Option.map_some, Option.map_none]
      · rw [p0]
        simp only [V46, c46_0, c46_1, c46_3, c46_10, tbx, tcx, tb0, tb1, tb2, tb3, tc0, tc1, tc2, tc3, q1, q1', h1, h2, h3, h4, p1, p2, Bool.not_true, Bool.not_false, Bool.and_false, Q0, Q1, Q2, Q3, Q4, Q5, Q6, Q7, Q8, Q9, Q10, Q11, Q12, Q13, Q14, Q15, Q16, Q17, Q18, Q19, Q20, Q21, Q22, Q23, Q24, Q25, Q26, Q27, Q28, Q29, Q30, Q31, Q32, Q33, Q35, Q36, Q37, Q38, Q39, Q40, Q41, Q42, Q43, Q44, Q45, Q46, Q47, Q48, Q49, Q50, Q51, Q52, Q53, Q54, Q55, Q56, Q57, Q58, Q59, Q60, Q61, Q62, Q63, Q64, Q65, Q66, Q67, Q68, Q69, Q70, Q71, Q72, Q73, Q99, Q100, Q101, Q102, Q103, Q74, Q75, Q77, Q78, Q79, Q80, Q81, Q82, Q83, Q84, clr, List.length_nil, List.length_cons, List.getElem?_cons_zero, List.getElem?_cons_succ, Nat.reduceAdd, Nat.zero_add, Nat.add_zero, Nat.reduceLeDiff, Nat.reduceSub, ↓reduceIte, List.drop_succ_cons, List.drop_zero, List.take_succ_cons, List.take_zero, Bool.false_eq_true, List.nil_append, List.cons_append, Bool.not_true, Bool.not_false, cond_true, cond_false, bne, Q85, Q86, Q87, Q88, Q89, Q90, Q91, Q92, Q93, Q94, Q95, Q96, Q97, Q98, Q110, Q111, Q116, Q117, Q118, Q119, Q120, Q121, Q122, Q123, Option.map_some, Option.map_none]
end Go.AE.Ytkdjdhfoodlnfaa
end

/-! Entries, logs: whether they are the same, in order, too great; which place is left of another, what a cut prunes. -/
section
set_option linter.unusedVariables false
set_option linter.unusedSimpArgs false
namespace Go.AE.Ytkdjdhfoodlnfaa
open Go Go.AE Go.Proofs.Ytkdjdhfoodlnfaa

structure En where
  lab : List Int
  kind : Int
  terms : List Tm
  er : Int
inductive IsEn : AV → En → Prop
  | mk (c : AV) (lab : List Int) (hc : Ns c lab) (k : Int) (d : AV) (ts : List Tm) (hd : IsL d ts) (e : Int) : IsEn (.agg [c, .v (.int .i64 k), d, .v (.int .i64 e)]) ⟨lab, k, ts, e⟩
def Lg (c : AV) (l : List En) : Prop := ∃ es, Sl 4 c es ∧ AllR IsEn es l ∧ es.length ≤ maxLen
theorem Lg.len {c : AV} {l : List En} (h : Lg c l) (H : List AO) : evLen H .slice c = some l.length := by
  obtain ⟨es, hs, ha, _⟩ := h
  rw [← ha.length]; exact hs.len H
theorem Lg.max {c : AV} {l : List En} (h : Lg c l) : l.length ≤ maxLen := by
  obtain ⟨es, hs, ha, hm⟩ := h
  rw [← ha.length]; exact hm
theorem _root_.Go.AE.Sl.sn1 {sz : Nat} {c : AV} {es : List AV} (h : Sl sz c es) (H : List AO) : c.snap1 H = some c := by cases h <;> rfl
theorem Lg.sn {c : AV} {l : List En} (h : Lg c l) (H : List AO) : c.snap1 H = some c := by
  obtain ⟨es, hs, _⟩ := h
  exact hs.sn1 H
theorem Lg.at {c : AV} {l : List En} (h : Lg c l) {i : Nat} (hi : i < l.length) : ∃ c1 k d e, (∀ H, iaV H 4 c (some i) = some (.ip [c1, .v (.int .i64 k), d, .v (.int .i64 e)])) ∧ Ns c1 l[i].lab ∧ k = l[i].kind ∧ IsL d l[i].terms ∧ e = l[i].er := by
  obtain ⟨es, hs, ha, _⟩ := h
  obtain ⟨a, e1, e2⟩ := ha.get' (List.getElem?_eq_getElem hi)
  have q := fun H => hs.ia e1 H
  generalize l[i] = x at e2
  cases e2 with
  | mk c1 lab hc k d ts hd e => exact ⟨c1, k, d, e, q, hc, rfl, hd, rfl⟩
theorem IsL.sn1 {d : AV} {ts : List Tm} (h : IsL d ts) (H : List AO) : d.snap1 H = some d := by cases h <;> rfl
theorem IsL.cl1 {d : AV} {ts : List Tm} (h : IsL d ts) : d.cl = some [d] := by cases h <;> rfl
theorem IsL.ln {d : AV} {ts : List Tm} (h : IsL d ts) (H : List AO) : evLen H .slice d = some ts.length := h.len H
theorem Ns.cl1 {c : AV} {ns : List Int} (h : Ns c ns) : c.cl = some [c] := by
  obtain ⟨hs, _⟩ := h
  generalize ns.map iv = es at hs
  cases hs <;> rfl
theorem ip_ld {x : AV} {cs : List AV} (H : List AO) : Q76 H false 1 (.ip (x :: cs)) = some x := by simp [Q76, Q77]
theorem ip_ld3 {a b c : AV} (H : List AO) : Q76 H true 3 (.ip [a, b, c]) = some (.agg [a, b, c]) := rfl
theorem ev3_sn {d : AV} {ts : List Tm} (hd : IsL d ts) {k e : Int} (H : List AO) : (AV.agg [.v (.int .i64 k), d, .v (.int .i64 e)]).snap1 H = some (.agg [.v (.int .i64 k), d, .v (.int .i64 e)]) := by cases hd <;> rfl
/-! ### SameAll, SameEvent, Same -/
def tsS (l m : List Tm) : Bool := sameT (.mk 0 ⟨#[]⟩ 0 l) (.mk 0 ⟨#[]⟩ 0 m)
theorem all_ok {a b : AV} {l m : List Tm} (ha : IsL a l) (hb : IsL b m) : callW F 40 [a, b] [] = some (.v (.bool (tsS l m)), []) := by
  have h := tsame_ok _ (.mk 0 ⟨#[]⟩ 0 l) (.mk 0 ⟨#[]⟩ 0 m) _ _ (Nat.lt_succ_self _) (.mk 0 ⟨#[]⟩ 0 a l ha) (.mk 0 ⟨#[]⟩ 0 b m hb)
  have c1 := IsL.cl1 ha
  have c2 := IsL.cl1 hb
  have s1 : ∀ H : List AO, (AV.agg [.v (.int .i64 0), .v (.string ⟨#[]⟩), .v (.int .i64 0), a]).snap1 H = some (.agg [.v (.int .i64 0), .v (.string ⟨#[]⟩), .v (.int .i64 0), a]) := fun H => (IsT.mk 0 ⟨#[]⟩ 0 a l ha).snap
  have s2 : ∀ H : List AO, (AV.agg [.v (.int .i64 0), .v (.string ⟨#[]⟩), .v (.int .i64 0), b]).snap1 H = some (.agg [.v (.int .i64 0), .v (.string ⟨#[]⟩), .v (.int .i64 0), b]) := fun H => (IsT.mk 0 ⟨#[]⟩ 0 b m hb).snap
  refine callW_pure (c := c40) rfl rfl 0 ?_
  unfold tsS
  simp only [c40, start, List.replicate, c40_0, c40_1, c1, c2, s1, s2, h, Q104, Q105, bs1, bs2, Q106, Q107, Q108, Q109, bd1, Q110, Q111, toL, List.map_cons, List.map_nil, Q112, List.set_cons_zero, List.set_cons_succ, and_self, Nat.le_refl, Q114, Q115, Q116, Q0, Q1, Q2, Q3, Q4, Q5, Q6, Q7, Q8, Q9, Q10, Q11, Q12, Q13, Q14, Q15, Q16, Q17, Q18, Q19, Q20, Q21, Q22, Q23, Q24, Q25, Q26, Q27, Q28, Q29, Q30, Q31, Q32, Q33, Q35, Q36, Q37, Q38, Q39, Q40, Q41, Q42, Q43, Q44, Q45, Q46, Q47, Q48, Q49, Q50, Q51, Q52, Q53, Q54, Q55, Q56, Q57, Q58, Q59, Q60, Q61, Q62, Q63, Q64, Q65, Q66, Q67, Q68, Q69, Q70, Q71, Q72, Q73, Q99, Q100, Q101, Q102, Q103, Q74, Q75, Q77, Q78, Q79, Q80, Q81, Q82, Q83, Q84, clr, List.length_nil, List.length_cons, List.getElem?_cons_zero, List.getElem?_cons_succ, Nat.reduceAdd, Nat.zero_add, Nat.add_zero, Nat.reduceLeDiff, Nat.reduceSub, ↓reduceIte, List.drop_succ_cons, List.drop_zero, List.take_succ_cons, List.take_zero, Bool.false_eq_true, List.nil_append, List.cons_append, Bool.not_true, Bool.not_false, cond_true, cond_false, bne, Q85, Q86, Q87, Q88, Q89, Q90, Q91, Q92, Q93, Q94, Q95, Q96, Q97, Q98, Q110, Q111, Q116, Q117, Q118, Q119, Q120, Q121, Q122, Q123, Option.map_some, Option.map_none, Q34]
def evS (k e : Int) (t : List Tm) (k' e' : Int) (t' : List Tm) : Bool := (k == k') && ((e == e') && tsS t t')
theorem event_ok {d d' : AV} {k e k' e' : Int} {t t' : List Tm} (hd : IsL d t) (hd' : IsL d' t') : callW F 28 [.agg [.v (.int .i64 k), d, .v (.int .i64 e)], .agg [.v (.int .i64 k'), d', .v (.int .i64 e')]] [] = some (.v (.bool (evS k e t k' e' t')), []) := by
  have h := all_ok hd hd'
  have s1 := fun H => IsL.sn1 hd H
  have s2 := fun H => IsL.sn1 hd' H
  refine callW_pure (c := c28) rfl rfl 0 ?_
  unfold evS
  have l00 : Q76 [.box 27 [.v (.int .i64 k), d, .v (.int .i64 e)], .box 27 [.v (.int .i64 k'), d', .v (.int .i64 e')]] false 1 (.ptr 0 0) = some (.v (.int .i64 k)) := rfl
  have l01 : Q76 [.box 27 [.v (.int .i64 k), d, .v (.int .i64 e)], .box 27 [.v (.int .i64 k'), d', .v (.int .i64 e')]] false 1 (.ptr 0 1) = some d := rfl
  have l02 : Q76 [.box 27 [.v (.int .i64 k), d, .v (.int .i64 e)], .box 27 [.v (.int .i64 k'), d', .v (.int .i64 e')]] false 1 (.ptr 0 2) = some (.v (.int .i64 e)) := rfl
  have l10 : Q76 [.box 27 [.v (.int .i64 k), d, .v (.int .i64 e)], .box 27 [.v (.int .i64 k'), d', .v (.int .i64 e')]] false 1 (.ptr 1 0) = some (.v (.int .i64 k')) := rfl
  have l11 : Q76 [.box 27 [.v (.int .i64 k), d, .v (.int .i64 e)], .box 27 [.v (.int .i64 k'), d', .v (.int .i64 e')]] false 1 (.ptr 1 1) = some d' := rfl
  have l12 : Q76 [.box 27 [.v (.int .i64 k), d, .v (.int .i64 e)], .box 27 [.v (.int .i64 k'), d', .v (.int .i64 e')]] false 1 (.ptr 1 2) = some (.v (.int .i64 e')) := rfl
  have b0 : bx [] 27 (some [.v (.int .i64 k), d, .v (.int .i64 e)]) = some (.ptr 0 0, [.box 27 [.v (.int .i64 k), d, .v (.int .i64 e)]]) := rfl
  have b1 : bx [.box 27 [.v (.int .i64 k), d, .v (.int .i64 e)]] 27 (some [.v (.int .i64 k'), d', .v (.int .i64 e')]) = some (.ptr 1 0, [.box 27 [.v (.int .i64 k), d, .v (.int .i64 e)], .box 27 [.v (.int .i64 k'), d', .v (.int .i64 e')]]) := rfl
  cases h1 : (k == k') <;> cases h2 : (e == e') <;>
    simp only [c28, start, List.replicate, c28_0, c28_1, b0, b1, l00, l01, l02, l10, l11, l12, s1, s2, h, h1, h2, Bool.false_and, Bool.true_and, Q0, Q1, Q2, Q3, Q4, Q5, Q6, Q7, Q8, Q9, Q10, Q11, Q12, Q13, Q14, Q15, Q16, Q17, Q18, Q19, Q20, Q21, Q22, Q23, Q24, Q25, Q26, Q27, Q28, Q29, Q30, Q31, Q32, Q33, Q35, Q36, Q37, Q38, Q39, Q40, Q41, Q42, Q43, Q44, Q45, Q46, Q47, Q48, Q49, Q50, Q51, Q52, Q53, Q54, Q55, Q56, Q57, Q58, Q59, Q60, Q61, Q62, Q63, Q64, Q65, Q66, Q67, Q68, Q69, Q70, Q71, Q72, Q73, Q99, Q100, Q101, Q102, Q103, Q74, Q75, Q77, Q78, Q79, Q80, Q81, Q82, Q83, Q84, clr, List.length_nil, List.length_cons, List.getElem?_cons_zero, List.getElem?_cons_succ, Nat.reduceAdd, Nat.zero_add, Nat.add_zero, Nat.reduceLeDiff, Nat.reduceSub, ↓reduceIte, List.drop_succ_cons, List.drop_zero, List.take_succ_cons, List.take_zero, Bool.false_eq_true, List.nil_append, List.cons_append, Bool.not_true, Bool.not_false, cond_true, cond_false, bne, Q85, Q86, Q87, Q88, Q89, Q90, Q91, Q92, Q93, Q94, Q95, Q96, Q97, Q98, Q110, Q111, Q116, Q117, Q118, Q119, Q120, Q121, Q122, Q123, Option.map_some, Option.map_none]
def enS (a b : En) : Bool := (cmpL a.lab b.lab == 0) && evS a.kind a.er a.terms b.kind b.er b.terms
def lgL : List En → List En → Bool
  | a :: l, b :: m => enS a b && lgL l m
  | _, _ => true
def lgS (l m : List En) : Bool := ((l.length : Int) == (m.length : Int)) && lgL l m
def V13 (c d : AV) (n i : Int) (x7 : AV) : List AV := [c, d, .junk, .junk, .junk, .v (.int .i64 n), .v (.int .i64 i), x7, .junk]
def K13 : List Bool := [true, true, false, false, false, true, true, false, false]
theorem same_ok {c d : AV} {l m : List En} (hc : Lg c l) (hd : Lg d m) : callW F 13 [c, d] [] = some (.v (.bool (lgS l m)), []) := by
  have q1 := fun H => hc.len H
  have q2 := fun H => hd.len H
  refine callW_pure (c := c13) rfl rfl (l.length + 1) ?_
  unfold lgS
  cases hl : ((l.length : Int) == (m.length : Int)) with
  | false => simp only [c13, start, List.replicate, c13_0, c13_1, c13_2, q1, q2, hl, Bool.not_false, Bool.false_and, Q0, Q1, Q2, Q3, Q4, Q5, Q6, Q7, Q8, Q9, Q10, Q11, Q12, Q13, Q14, Q15, Q16, Q17, Q18, Q19, Q20, Q21, Q22, Q23, Q24, Q25, Q26, Q27, Q28, Q29, Q30, Q31, Q32, Q33, Q35, Q36, Q37, Q38, Q39, Q40, Q41, Q42, Q43, Q44, Q45, Q46, Q47, Q48, Q49, Q50, Q51, Q52, Q53, Q54, Q55, Q56, Q57, Q58, Q59, Q60, Q61, Q62, Q63, Q64, Q65, Q66, Q67, Q68, Q69, Q70, Q71, Q72, Q73, Q99, Q100, Q101, Q102, Q103, Q74, Q75, Q77, Q78, Q79, Q80, Q81, Q82, Q83, Q84, clr, List.length_nil, List.length_cons, List.getElem?_cons_zero, List.getElem?_cons_succ, Nat.reduceAdd, Nat.zero_add, Nat.add_zero, Nat.reduceLeDiff, Nat.reduceSub, ↓reduceIte, List.drop_succ_cons, List.drop_zero, List.take_succ_cons, List.take_zero, Bool.false_eq_true, List.nil_append, List.cons_append, Bool.not_true, Bool.not_false, cond_true, cond_false, bne, Q85, Q86, Q87, Q88, Q89, Q90, Q91, Q92, Q93, Q94, Q95, Q96, Q97, Q98, Q110, Q111, Q116, Q117, Q118, Q119, Q120, Q121, Q122, Q123, Option.map_some, Option.map_none, Q34]
  | true =>
  have hleq : l.length = m.length := by have := eq_of_beq hl; omega
  obtain ⟨e, v', h', g1, g2, g3⟩ := loop_rule0 (call := callW F) (K := l.length + 1) (b := c13_9) (keep := K13)
    (fun i v h => v = V13 c d l.length i .junk ∧ h = [] ∧ lgL (l.drop i) (m.drop i) = lgL l m)
    (fun e v h => h = [] ∧ ((e = .exit 0 ∧ lgL l m = true ∧ v = V13 c d l.length l.length (.v (.bool false))) ∨ (e = .ret ∧ lgL l m = false ∧ getO v [] (.var 2) = .v (.bool false))))
    l.length (m := l.length + 1) (v := [c, d, .v (.bool false), .v undef, .v (.bool false), .v (.int .i64 l.length), .v (.int .i64 0), .v undef, .v undef]) (h := []) (by omega) ⟨rfl, rfl, rfl⟩ (by
      rintro i v h hi ⟨rfl, rfl, hR⟩
      by_cases hil : i < l.length
      · have him : i < m.length := by omega
        have hlt := lt_t hil
        have hw := wrap_succ (i := i) (len := l.length) hil hc.max
        obtain ⟨c1, k, dd, e, e1, n1, rfl, t1, rfl⟩ := hc.at hil
        obtain ⟨c2, k', dd', e', e2, n2, rfl, t2, rfl⟩ := hd.at him
        have hcm := rcompare_ok n1 n2
        have hev := event_ok (k := l[i].kind) (e := l[i].er) (k' := m[i].kind) (e' := m[i].er) t1 t2
        have s1 := fun H => n1.sn H
        have s2 := fun H => n2.sn H
        have s3 := fun H => ev3_sn t1 (k := l[i].kind) (e := l[i].er) H
        have s4 := fun H => ev3_sn t2 (k := m[i].kind) (e := m[i].er) H
        rw [List.drop_eq_getElem_cons hil, List.drop_eq_getElem_cons him, lgL, enS] at hR
        generalize cmpL l[i].lab m[i].lab = x at hcm hR
        generalize evS l[i].kind l[i].er l[i].terms m[i].kind m[i].er m[i].terms = y at hev hR
        cases hx : (x == 0) with
        | false =>
          rw [hx] at hR
          refine ⟨.ret, [c, d, .v (.bool false), .v (.int .i64 i), .junk, .v (.int .i64 l.length), .v (.int .i64 i), .v (.bool true), .v (.bool true)], [], ?_, rfl, .inr ⟨rfl, hR.symm, rfl⟩⟩
          simp only [V13, c13_9, c13_4, c13_5, c13_6, c13_7, hlt, e1, e2, ip_ld, ip_ld3, s1, s2, hcm, hx, Bool.not_false, Q0, Q1, Q2, Q3, Q4, Q5, Q6, Q7, Q8, Q9, Q10, Q11, Q12, Q13, Q14, Q15, Q16, Q17, Q18, Q19, Q20, Q21, Q22, Q23, Q24, Q25, Q26, Q27, Q28, Q29, Q30, Q31, Q32, Q33, Q35, Q36, Q37, Q38, Q39, Q40, Q41, Q42, Q43, Q44, Q45, Q46, Q47, Q48, Q49, Q50, Q51, Q52, Q53, Q54, Q55, Q56, Q57, Q58, Q59, Q60, Q61, Q62, Q63, Q64, Q65, Q66, Q67, Q68, Q69, Q70, Q71, Q72, Q73, Q99, Q100, Q101, Q102, Q103, Q74, Q75, Q77, Q78, Q79, Q80, Q81, Q82, Q83, Q84, clr, List.length_nil, List.length_cons, List.getElem?_cons_zero, List.getElem?_cons_succ, Nat.reduceAdd, Nat.zero_add, Nat.add_zero, Nat.reduceLeDiff, Nat.reduceSub, ↓reduceIte, List.drop_succ_cons, List.drop_zero, List.take_succ_cons, List.take_zero, Bool.false_eq_true, List.nil_append, List.cons_append, Bool.not_true, Bool.not_false, cond_true, cond_false, bne, Q85, Q86, Q87, Q88, Q89, Q90, Q91, Q92, Q93, Q94, Q95, Q96, Q97, Q98, Q110, Q111, Q116, Q117, Q118, Q119, Q120, Q121, Q122, Q123, Option.map_some, Option.map_none, Q34]
        | true =>
          rw [hx] at hR
          cases y with
          | false =>
            refine ⟨.ret, [c, d, .v (.bool false), .v (.int .i64 i), .junk, .v (.int .i64 l.length), .v (.int .i64 i), .v (.bool true), .v (.bool true)], [], ?_, rfl, .inr ⟨rfl, hR.symm, rfl⟩⟩
            simp only [V13, c13_9, c13_4, c13_5, c13_6, c13_7, hlt, e1, e2, ip_ld, ip_ld3, s1, s2, s3, s4, hcm, hev, hx, Bool.not_true, Bool.not_false, Q0, Q1, Q2, Q3, Q4, Q5, Q6, Q7, Q8, Q9, Q10, Q11, Q12, Q13, Q14, Q15, Q16, Q17, Q18, Q19, Q20, Q21, Q22, Q23, Q24, Q25, Q26, Q27, Q28, Q29, Q30, Q31, Q32, Q33, Q35, Q36, Q37, Q38, Q39, Q40, Q41, Q42, Q43, Q44, Q45, Q46, Q47, Q48, Q49, Q50, Q51, Q52, Q53, Q54, Q55, Q56, Q57, Q58, Q59, Q60, Q61, Q62, Q63, Q64, Q65, Q66, Q67, Q68, Q69, Q70, Q71, Q72, Q73, Q99, Q100, Q101, Q102, Q103, Q74, Q75, Q77, Q78, Q79, Q80, Q81, Q82, Q83, Q84, clr, List.length_nil, List.length_cons, List.getElem?_cons_zero, List.getElem?_cons_succ, Nat.reduceAdd, Nat.zero_add, Nat.add_zero, Nat.reduceLeDiff, Nat.reduceSub, ↓reduceIte, List.drop_succ_cons, List.drop_zero, List.take_succ_cons, List.take_zero, Bool.false_eq_true, List.nil_append, List.cons_append, Bool.not_true, Bool.not_false, cond_true, cond_false, bne, Q85, Q86, Q87, Q88, Q89, Q90, Q91, Q92, Q93, Q94, Q95, Q96, Q97, Q98, Q110, Q111, Q116, Q117, Q118, Q119, Q120, Q121, Q122, Q123, Option.map_some, Option.map_none, Q34]
          | true =>
            refine ⟨.normal, [c, d, .junk, .v (.int .i64 i), .junk, .v (.int .i64 l.length), .v (.int .i64 ((i + 1 : Nat) : Int)), .v (.bool true), .v (.bool false)], [], ?_, hil, rfl, rfl, hR⟩
            simp only [V13, c13_9, c13_4, c13_5, c13_6, c13_8, hlt, hw, e1, e2, ip_ld, ip_ld3, s1, s2, s3, s4, hcm, hev, hx, Bool.not_true, Bool.not_false, Q0, Q1, Q2, Q3, Q4, Q5, Q6, Q7, Q8, Q9, Q10, Q11, Q12, Q13, Q14, Q15, Q16, Q17, Q18, Q19, Q20, Q21, Q22, Q23, Q24, Q25, Q26, Q27, Q28, Q29, Q30, Q31, Q32, Q33, Q35, Q36, Q37, Q38, Q39, Q40, Q41, Q42, Q43, Q44, Q45, Q46, Q47, Q48, Q49, Q50, Q51, Q52, Q53, Q54, Q55, Q56, Q57, Q58, Q59, Q60, Q61, Q62, Q63, Q64, Q65, Q66, Q67, Q68, Q69, Q70, Q71, Q72, Q73, Q99, Q100, Q101, Q102, Q103, Q74, Q75, Q77, Q78, Q79, Q80, Q81, Q82, Q83, Q84, clr, List.length_nil, List.length_cons, List.getElem?_cons_zero, List.getElem?_cons_succ, Nat.reduceAdd, Nat.zero_add, Nat.add_zero, Nat.reduceLeDiff, Nat.reduceSub, ↓reduceIte, List.drop_succ_cons, List.drop_zero, List.take_succ_cons, List.take_zero, Bool.false_eq_true, List.nil_append, List.cons_append, Bool.not_true, Bool.not_false, cond_true, cond_false, bne, Q85, Q86, Q87, Q88, Q89, Q90, Q91, Q92, Q93, Q94, Q95, Q96, Q97, Q98, Q110, Q111, Q116, Q117, Q118, Q119, Q120, Q121, Q122, Q123, Option.map_some, Option.map_none, Q34]
      · have hie : i = l.length := by omega
        subst hie
        have hlt := lt_f (n := l.length)
        rw [List.drop_of_length_le (Nat.le_refl _), lgL] at hR
        · refine ⟨.exit 0, V13 c d l.length l.length (.v (.bool false)), [], ?_, rfl, .inl ⟨rfl, hR.symm, rfl⟩⟩
          simp only [V13, c13_9, c13_4, hlt, Q0, Q1, Q2, Q3, Q4, Q5, Q6, Q7, Q8, Q9, Q10, Q11, Q12, Q13, Q14, Q15, Q16, Q17, Q18, Q19, Q20, Q21, Q22, Q23, Q24, Q25, Q26, Q27, Q28, Q29, Q30, Q31, Q32, Q33, Q35, Q36, Q37, Q38, Q39, Q40, Q41, Q42, Q43, Q44, Q45, Q46, Q47, Q48, Q49, Q50, Q51, Q52, Q53, Q54, Q55, Q56, Q57, Q58, Q59, Q60, Q61, Q62, Q63, Q64, Q65, Q66, Q67, Q68, Q69, Q70, Q71, Q72, Q73, Q99, Q100, Q101, Q102, Q103, Q74, Q75, Q77, Q78, Q79, Q80, Q81, Q82, Q83, Q84, clr, List.length_nil, List.length_cons, List.getElem?_cons_zero, List.getElem?_cons_succ, Nat.reduceAdd, Nat.zero_add, Nat.add_zero, Nat.reduceLeDiff, Nat.reduceSub, ↓reduceIte, List.drop_succ_cons, List.drop_zero, List.take_succ_cons, List.take_zero, Bool.false_eq_true, List.nil_append, List.cons_append, Bool.not_true, Bool.not_false, cond_true, cond_false, bne, Q85, Q86, Q87, Q88, Q89, Q90, Q91, Q92, Q93, Q94, Q95, Q96, Q97, Q98, Q110, Q111, Q116, Q117, Q118, Q119, Q120, Q121, Q122, Q123, Option.map_some, Option.map_none, Q34]
        · intro _ _ _ _ e; cases e)
  obtain ⟨rfl, g3⟩ := g3
  rw [show c13.body = (.seq (.region [] [] c13_0) (.seq (.seq (.region [] [] c13_1) (.cond (.var 4) (.seq (.region [] [] c13_2) .ret) .skip)) (.seq (.seq (.region [] [] c13_3) (.block 0 (.loop K13 [] c13_9))) (.seq (.region [] [] c13_10) .ret)))) from rfl]
  generalize c13_9 = bb at g1 ⊢
  rcases g3 with ⟨rfl, h1, rfl⟩ | ⟨rfl, h1, h2⟩
  · rw [h1]
    simp only [V13] at g1
    simp only [c13, start, List.replicate, c13_0, c13_1, c13_3, c13_10, q1, q2, hl, g1, Bool.not_true, Bool.and_self, Q0, Q1, Q2, Q3, Q4, Q5, Q6, Q7, Q8, Q9, Q10, Q11, Q12, Q13, Q14, Q15, Q16, Q17, Q18, Q19, Q20, Q21, Q22, Q23, Q24, Q25, Q26, Q27, Q28, Q29, Q30, Q31, Q32, Q33, Q35, Q36, Q37, Q38, Q39, Q40, Q41, Q42, Q43, Q44, Q45, Q46, Q47, Q48, Q49, Q50, Q51, Q52, Q53, Q54, Q55, Q56, Q57, Q58, Q59, Q60, Q61, Q62, Q63, Q64, Q65, Q66, Q67, Q68, Q69, Q70, Q71, Q72, Q73, Q99, Q100, Q101, Q102, Q103, Q74, Q75, Q77, Q78, Q79, Q80, Q81, Q82, Q83, Q84, clr, List.length_nil, List.length_cons, List.getElem?_cons_zero, List.getElem?_cons_succ, Nat.reduceAdd, Nat.zero_add, Nat.add_zero, Nat.reduceLeDiff, Nat.reduceSub, ↓reduceIte, List.drop_succ_cons, List.drop_zero, List.take_succ_cons, List.take_zero, Bool.false_eq_true, List.nil_append, List.cons_append, Bool.not_true, Bool.not_false, cond_true, cond_false, bne, Q85, Q86, Q87, Q88, Q89, Q90, Q91, Q92, Q93, Q94, Q95, Q96, Q97, Q98, Q110, Q111, Q116, Q117, Q118, Q119, Q120, Q121, Q122, Q123, Option.map_some, Option.map_none, Q34]
  · rw [h1]
    generalize (CC.seq (.region [] [] c13_10) .ret) = rest
    simp only [c13, start, List.replicate, c13_0, c13_1, c13_3, q1, q2, hl, g1, h2, Bool.not_true, Bool.and_false, Q0, Q1, Q2, Q3, Q4, Q5, Q6, Q7, Q8, Q9, Q10, Q11, Q12, Q13, Q14, Q15, Q16, Q17, Q18, Q19, Q20, Q21, Q22, Q23, Q24, Q25, Q26, Q27, Q28, Q29, Q30, Q31, Q32, Q33, Q35, Q36, Q37, Q38, Q39, Q40, Q41, Q42, Q43, Q44, Q45, Q46, Q47, Q48, Q49, Q50, Q51, Q52, Q53, Q54, Q55, Q56, Q57, Q58, Q59, Q60, Q61, Q62, Q63, Q64, Q65, Q66, Q67, Q68, Q69, Q70, Q71, Q72, Q73, Q99, Q100, Q101, Q102, Q103, Q74, Q75, Q77, Q78, Q79, Q80, Q81, Q82, Q83, Q84, clr, List.length_nil, List.length_cons, List.getElem?_cons_zero, List.getElem?_cons_succ, Nat.reduceAdd, Nat.zero_add, Nat.add_zero, Nat.reduceLeDiff, Nat.reduceSub, ↓reduceIte, List.drop_succ_cons, List.drop_zero, List.take_succ_cons, List.take_zero, Bool.false_eq_true, List.nil_append, List.cons_append, Bool.not_true, Bool.not_false, cond_true, cond_false, bne, Q85, Q86, Q87, Q88, Q89, Q90, Q91, Q92, Q93, Q94, Q95, Q96, Q97, Q98, Q110, Q111, Q116, Q117, Q118, Q119, Q120, Q121, Q122, Q123, Option.map_some, Option.map_none, Q34]
/-! ### Ordered -/
def ordL : List En → Bool
  | a :: b :: l => decide (cmpL a.lab b.lab < 0) && ordL (b :: l)
  | _ => true
def V10 (c : AV) (i : Int) (x3 : AV) : List AV := [c, .junk, .v (.int .i64 i), x3, .junk]
def K10 : List Bool := [true, false, true, false, false]
theorem ordered_ok {c : AV} {l : List En} (hc : Lg c l) : callW F 10 [c] [] = some (.v (.bool (ordL l)), []) := by
  have q1 := fun H => hc.len H
  have hmax := hc.max
  refine callW_pure (c := c10) rfl rfl (l.length + 1) ?_
  obtain ⟨e, v', h', g1, g2, g3⟩ := loop_rule0 (call := callW F) (K := l.length + 1) (b := c10_6) (keep := K10)
    (fun i v h => v = V10 c ((i + 1 : Nat) : Int) .junk ∧ h = [] ∧ ordL (l.drop i) = ordL l)
    (fun e v h => h = [] ∧ ((e = .exit 0 ∧ ordL l = true ∧ ∃ i : Nat, v = V10 c i (.v (.bool false))) ∨ (e = .ret ∧ ordL l = false ∧ getO v [] (.var 1) = .v (.bool false))))
    l.length (m := l.length + 1) (v := [c, .v (.bool false), .v (.int .i64 1), .v undef, .v undef]) (h := []) (by omega) ⟨rfl, rfl, rfl⟩ (by
      rintro i v h hi ⟨rfl, rfl, hR⟩
      by_cases hil : i + 1 < l.length
      · have hlt := lt_t hil
        have hw := wrap_succ (i := i + 1) (len := l.length) hil hmax
        have hs : IntKind.i64.wrap (((i + 1 : Nat) : Int) - 1) = (i : Int) := by
          have : maxLen = 9223372036854775807 := rfl
          rw [IntWalk.i64_in] <;> omega
        obtain ⟨c1, k, dd, e, e1, n1, _⟩ := hc.at (i := i) (by omega)
        obtain ⟨c2, k', dd', e', e2, n2, _⟩ := hc.at (i := i + 1) hil
        have hcm := rcompare_ok n1 n2
        have s1 := fun H => n1.sn H
        have s2 := fun H => n2.sn H
        have hd1 : l.drop i = l[i] :: l[i + 1] :: l.drop (i + 1 + 1) := by
          rw [List.drop_eq_getElem_cons (by omega), List.drop_eq_getElem_cons hil]
        have hd2 : l.drop (i + 1) = l[i + 1] :: l.drop (i + 1 + 1) := List.drop_eq_getElem_cons hil
        rw [hd1, ordL, ← hd2] at hR
        generalize cmpL l[i].lab l[i + 1].lab = x at hcm hR
        cases hx : decide (x ≥ 0) with
        | true =>
          have hxn : decide (x < 0) = false := by have := of_decide_eq_true hx; exact decide_eq_false (by omega)
          rw [hxn] at hR
          refine ⟨.ret, [c, .v (.bool false), .v (.int .i64 ((i + 1 : Nat) : Int)), .v (.bool true), .v (.bool true)], [], ?_, rfl, .inr ⟨rfl, hR.symm, rfl⟩⟩
          simp only [V10, c10_6, c10_2, c10_3, c10_4, q1, hlt, hs, e1, e2, ip_ld, ip_ld3, s1, s2, hcm, hx, Q0, Q1, Q2, Q3, Q4, Q5, Q6, Q7, Q8, Q9, Q10, Q11, Q12, Q13, Q14, Q15, Q16, Q17, Q18, Q19, Q20, Q21, Q22, Q23, Q24, Q25, Q26, Q27, Q28, Q29, Q30, Q31, Q32, Q33, Q35, Q36, Q37, Q38, Q39, Q40, Q41, Q42, Q43, Q44, Q45, Q46, Q47, Q48, Q49, Q50, Q51, Q52, Q53, Q54, Q55, Q56, Q57, Q58, Q59, Q60, Q61, Q62, Q63, Q64, Q65, Q66, Q67, Q68, Q69, Q70, Q71, Q72, Q73, Q99, Q100, Q101, Q102, Q103, Q74, Q75, Q77, Q78, Q79, Q80, Q81, Q82, Q83, Q84, clr, List.length_nil, List.length_cons, List.getElem?_cons_zero, List.getElem?_cons_succ, Nat.reduceAdd, Nat.zero_add, Nat.add_zero, Nat.reduceLeDiff, Nat.reduceSub, ↓reduceIte, List.drop_succ_cons, List.drop_zero, List.take_succ_cons, List.take_zero, Bool.false_eq_true, List.nil_append, List.cons_append, Bool.not_true, Bool.not_false, cond_true, cond_false, bne, Q85, Q86, Q87, Q88, Q89, Q90, Q91, Q92, Q93, Q94, Q95, Q96, Q97, Q98, Q110, Q111, Q116, Q117, Q118, Q119, Q120, Q121, Q122, Q123, Option.map_some, Option.map_none, Q34]
        | false =>
          have hxn : decide (x < 0) = true := by have := of_decide_eq_false hx; exact decide_eq_true (by omega)
          rw [hxn, Bool.true_and] at hR
          refine ⟨.normal, [c, .junk, .v (.int .i64 ((i + 1 + 1 : Nat) : Int)), .v (.bool true), .v (.bool false)], [], ?_, by omega, rfl, rfl, hR⟩
          simp only [V10, c10_6, c10_2, c10_3, c10_5, q1, hlt, hs, hw, e1, e2, ip_ld, ip_ld3, s1, s2, hcm, hx, Q0, Q1, Q2, Q3, Q4, Q5, Q6, Q7, Q8, Q9, Q10, Q11, Q12, Q13, Q14, Q15, Q16, Q17, Q18, Q19, Q20, Q21, Q22, Q23, Q24, Q25, Q26, Q27, Q28, Q29, Q30, Q31, Q32, Q33, Q35, Q36, Q37, Q38, Q39, Q40, Q41, Q42, Q43, Q44, Q45, Q46, Q47, Q48, Q49, Q50, Q51, Q52, Q53, Q54, Q55, Q56, Q57, Q58, Q59, Q60, Q61, Q62, Q63, Q64, Q65, Q66, Q67, Q68, Q69, Q70, Q71, Q72, Q73, Q99, Q100, Q101, Q102, Q103, Q74, Q75, Q77, Q78, Q79, Q80, Q81, Q82, Q83, Q84, clr, List.length_nil, List.length_cons, List.getElem?_cons_zero, List.getElem?_cons_succ, Nat.reduceAdd, Nat.zero_add, Nat.add_zero, Nat.reduceLeDiff, Nat.reduceSub, ↓reduceIte, List.drop_succ_cons, List.drop_zero, List.take_succ_cons, List.take_zero, Bool.false_eq_true, List.nil_append, List.cons_append, Bool.not_true, Bool.not_false, cond_true, cond_false, bne, Q85, Q86, Q87, Q88, Q89, Q90, Q91, Q92, Q93, Q94, Q95, Q96, Q97, Q98, Q110, Q111, Q116, Q117, Q118, Q119, Q120, Q121, Q122, Q123, Option.map_some, Option.map_none, Q34]
      · have hlt : decide (((i + 1 : Nat) : Int) < (l.length : Int)) = false := decide_eq_false (by omega)
        have ht : ordL (l.drop i) = true := by
          have hlen : (l.drop i).length ≤ 1 := by rw [List.length_drop]; omega
          generalize l.drop i = z at hlen
          match z, hlen with
          | [], _ => rfl
          | [_], _ => rfl
        rw [ht] at hR
        refine ⟨.exit 0, V10 c ((i + 1 : Nat) : Int) (.v (.bool false)), [], ?_, rfl, .inl ⟨rfl, hR.symm, _, rfl⟩⟩
        simp only [V10, c10_6, c10_2, q1, hlt, Q0, Q1, Q2, Q3, Q4, Q5, Q6, Q7, Q8, Q9, Q10, Q11, Q12, Q13, Q14, Q15, Q16, Q17, Q18, Q19, Q20, Q21, Q22, Q23, Q24, Q25, Q26, Q27, Q28, Q29, Q30, Q31, Q32, Q33, Q35, Q36, Q37, Q38, Q39, Q40, Q41, Q42, Q43, Q44, Q45, Q46, Q47, Q48, Q49, Q50, Q51, Q52, Q53, Q54, Q55, Q56, Q57, Q58, Q59, Q60, Q61, Q62, Q63, Q64, Q65, Q66, Q67, Q68, Q69, Q70, Q71, Q72, Q73, Q99, Q100, Q101, Q102, Q103, Q74, Q75, Q77, Q78, Q79, Q80, Q81, Q82, Q83, Q84, clr, List.length_nil, List.length_cons, List.getElem?_cons_zero, List.getElem?_cons_succ, Nat.reduceAdd, Nat.zero_add, Nat.add_zero, Nat.reduceLeDiff, Nat.reduceSub, ↓reduceIte, List.drop_succ_cons, List.drop_zero, List.take_succ_cons, List.take_zero, Bool.false_eq_true, List.nil_append, List.cons_append, Bool.not_true, Bool.not_false, cond_true, cond_false, bne, Q85, Q86, Q87, Q88, Q89, Q90, Q91, Q92, Q93, Q94, Q95, Q96, Q97, Q98, Q110, Q111, Q116, Q117, Q118, Q119, Q120, Q121, Q122, Q123, Option.map_some, Option.map_none, Q34])
  obtain ⟨rfl, g3⟩ := g3
  rw [show c10.body = (.seq (.region [] [] c10_0) (.seq (.seq (.region [] [] c10_1) (.block 0 (.loop K10 [] c10_6))) (.seq (.region [] [] c10_7) .ret))) from rfl]
  generalize c10_6 = bb at g1 ⊢
  rcases g3 with ⟨rfl, h1, i, rfl⟩ | ⟨rfl, h1, h2⟩
  · rw [h1]
    simp only [V10] at g1
    simp only [c10, start, List.replicate, c10_0, c10_1, c10_7, g1, Q0, Q1, Q2, Q3, Q4, Q5, Q6, Q7, Q8, Q9, Q10, Q11, Q12, Q13, Q14, Q15, Q16, Q17, Q18, Q19, Q20, Q21, Q22, Q23, Q24, Q25, Q26, Q27, Q28, Q29, Q30, Q31, Q32, Q33, Q35, Q36, Q37, Q38, Q39, Q40, Q41, Q42, Q43, Q44, Q45, Q46, Q47, Q48, Q49, Q50, Q51, Q52, Q53, Q54, Q55, Q56, Q57, Q58, Q59, Q60, Q61, Q62, Q63, Q64, Q65, Q66, Q67, Q68, Q69, Q70, Q71, Q72, Q73, Q99, Q100, Q101, Q102, Q103, Q74, Q75, Q77, Q78, Q79, Q80, Q81, Q82, Q83, Q84, clr, List.length_nil, List.length_cons, List.getElem?_cons_zero, List.getElem?_cons_succ, Nat.reduceAdd, Nat.zero_add, Nat.add_zero, Nat.reduceLeDiff, Nat.reduceSub, ↓reduceIte, List.drop_succ_cons, List.drop_zero, List.take_succ_cons, List.take_zero, Bool.false_eq_true, List.nil_append, List.cons_append, Bool.not_true, Bool.not_false, cond_true, cond_false, bne, Q85, Q86, Q87, Q88, Q89, Q90, Q91, Q92, Q93, Q94, Q95, Q96, Q97, Q98, Q110, Q111, Q116, Q117, Q118, Q119, Q120, Q121, Q122, Q123, Option.map_some, Option.map_none, Q34]
  · rw [h1]
    generalize (CC.seq (.region [] [] c10_7) .ret) = rest
    simp only [c10, start, List.replicate, c10_0, c10_1, g1, h2, Q0, Q1, Q2, Q3, Q4, Q5, Q6, Q7, Q8, Q9, Q10, Q11, Q12, Q13, Q14, Q15, Q16, Q17, Q18, Q19, Q20, Q21, Q22, Q23, Q24, Q25, Q26, Q27, Q28, Q29, Q30, Q31, Q32, Q33, Q35, Q36, Q37, Q38, Q39, Q40, Q41, Q42, Q43, Q44, Q45, Q46, Q47, Q48, Q49, Q50, Q51, Q52, Q53, Q54, Q55, Q56, Q57, Q58, Q59, Q60, Q61, Q62, Q63, Q64, Q65, Q66, Q67, Q68, Q69, Q70, Q71, Q72, Q73, Q99, Q100, Q101, Q102, Q103, Q74, Q75, Q77, Q78, Q79, Q80, Q81, Q82, Q83, Q84, clr, List.length_nil, List.length_cons, List.getElem?_cons_zero, List.getElem?_cons_succ, Nat.reduceAdd, Nat.zero_add, Nat.add_zero, Nat.reduceLeDiff, Nat.reduceSub, ↓reduceIte, List.drop_succ_cons, List.drop_zero, List.take_succ_cons, List.take_zero, Bool.false_eq_true, List.nil_append, List.cons_append, Bool.not_true, Bool.not_false, cond_true, cond_false, bne, Q85, Q86, Q87, Q88, Q89, Q90, Q91, Q92, Q93, Q94, Q95, Q96, Q97, Q98, Q110, Q111, Q116, Q117, Q118, Q119, Q120, Q121, Q122, Q123, Option.map_some, Option.map_none, Q34]
end Go.AE.Ytkdjdhfoodlnfaa
end

/-! Which place is left of another, what a cut prunes; the closures that ask it of an entry; whether a log is too great. -/
section
set_option linter.unusedVariables false
set_option linter.unusedSimpArgs false
namespace Go.AE.Ytkdjdhfoodlnfaa
open Go Go.AE Go.Proofs.Ytkdjdhfoodlnfaa

def leftL : List Int → List Int → Bool
  | a :: l, b :: m => if a = b then leftL l m else decide (a < b)
  | _, _ => false
theorem left_parts : ∀ (l m : List Int), leftL l m = if h : parts l m < l.length ∧ parts l m < m.length then decide ((l[parts l m]'h.1) < (m[parts l m]'h.2)) else false
  | [], m => by simp [leftL]
  | a :: l, [] => by simp [leftL]
  | a :: l, b :: m => by
    have ih := left_parts l m
    rw [leftL]
    by_cases h : a = b
    · have hp : parts (a :: l) (b :: m) = parts l m + 1 := by rw [parts, if_pos h]
      rw [if_pos h, ih]
      by_cases h2 : parts l m < l.length ∧ parts l m < m.length
      · rw [dif_pos h2, dif_pos (by rw [hp]; simp only [List.length_cons]; omega)]
        simp only [hp, List.getElem_cons_succ]
      · rw [dif_neg h2, dif_neg (by rw [hp]; simp only [List.length_cons]; omega)]
    · have hp : parts (a :: l) (b :: m) = 0 := by rw [parts, if_neg h]
      rw [if_neg h, dif_pos (by rw [hp]; simp only [List.length_cons]; omega)]
      simp only [hp, List.getElem_cons_zero]
theorem left_ok {c d : AV} {x y : List Int} (hc : Ns c x) (hd : Ns d y) : callW F 41 [c, d] [] = some (.v (.bool (leftL x y)), []) := by
  have q1 := fun H => hc.len H
  have q2 := fun H => hd.len H
  have s1 := fun H => hc.sn H
  have s2 := fun H => hd.sn H
  have p := parts_ok hc hd
  have hcp := left_parts x y
  obtain ⟨n, hn⟩ : ∃ n, n = parts x y := ⟨_, rfl⟩
  rw [← hn] at p
  refine callW_pure (c := c41) rfl rfl 0 ?_
  cases h1 : decide ((n : Int) < (x.length : Int)) with
  | false =>
    have := of_decide_eq_false h1
    rw [dif_neg (by omega)] at hcp
    rw [hcp]
    simp only [c41, start, List.replicate, c41_0, c41_1, c41_2, q1, q2, s1, s2, p, h1, Q122, Q0, Q1, Q2, Q3, Q4, Q5, Q6, Q7, Q8, Q9, Q10, Q11, Q12, Q13, Q14, Q15, Q16, Q17, Q18, Q19, Q20, Q21, Q22, Q23, Q24, Q25, Q26, Q27, Q28, Q29, Q30, Q31, Q32, Q33, Q35, Q36, Q37, Q38, Q39, Q40, Q41, Q42, Q43, Q44, Q45, Q46, Q47, Q48, Q49, Q50, Q51, Q52, Q53, Q54, Q55, Q56, Q57, Q58, Q59, Q60, Q61, Q62, Q63, Q64, Q65, Q66, Q67, Q68, Q69, Q70, Q71, Q72, Q73, Q99, Q100, Q101, Q102, Q103, Q74, Q75, Q77, Q78, Q79, Q80, Q81, Q82, Q83, Q84, clr, List.length_nil, List.length_cons, List.getElem?_cons_zero, List.getElem?_cons_succ, Nat.reduceAdd, Nat.zero_add, Nat.add_zero, Nat.reduceLeDiff, Nat.reduceSub, ↓reduceIte, List.drop_succ_cons, List.drop_zero, List.take_succ_cons, List.take_zero, Bool.false_eq_true, List.nil_append, List.cons_append, Bool.not_true, Bool.not_false, cond_true, cond_false, bne, Q85, Q86, Q87, Q88, Q89, Q90, Q91, Q92, Q93, Q94, Q95, Q96, Q97, Q98, Q110, Q111, Q116, Q117, Q118, Q119, Q120, Q121, Q122, Q123, Option.map_some, Option.map_none, Q34]
  | true =>
    have l1 := of_decide_eq_true h1
    cases h2 : decide ((n : Int) < (y.length : Int)) with
    | false =>
      have := of_decide_eq_false h2
      rw [dif_neg (by omega)] at hcp
      rw [hcp]
      simp only [c41, start, List.replicate, c41_0, c41_1, c41_2, q1, q2, s1, s2, p, h1, h2, Q122, Q0, Q1, Q2, Q3, Q4, Q5, Q6, Q7, Q8, Q9, Q10, Q11, Q12, Q13, Q14, Q15, Q16, Q17, Q18, Q19, Q20, Q21, Q22, Q23, Q24, Q25, Q26, Q27, Q28, Q29, Q30, Q31, Q32, Q33, Q35, Q36, Q37, Q38, Q39, Q40, Q41, Q42, Q43, Q44, Q45, Q46, Q47, Q48, Q49, Q50, Q51, Q52, Q53, Q54, Q55, Q56, Q57, Q58, Q59, Q60, Q61, Q62, Q63, Q64, Q65, Q66, Q67, Q68, Q69, Q70, Q71, Q72, Q73, Q99, Q100, Q101, Q102, Q103, Q74, Q75, Q77, Q78, Q79, Q80, Q81, Q82, Q83, Q84, clr, List.length_nil, List.length_cons, List.getElem?_cons_zero, List.getElem?_cons_succ, Nat.reduceAdd, Nat.zero_add, Nat.add_zero, Nat.reduceLeDiff, Nat.reduceSub, ↓reduceIte, List.drop_succ_cons, List.drop_zero, List.take_succ_cons, List.take_zero, Bool.false_eq_true, List.nil_append, List.cons_append, Bool.not_true, Bool.not_false, cond_true, cond_false, bne, Q85, Q86, Q87, Q88, Q89, Q90, Q91, Q92, Q93, Q94, Q95, Q96, Q97, Q98, Q110, Q111, Q116, Q117, Q118, Q119, Q120, Q121, Q122, Q123, Option.map_some, Option.map_none, Q34]
    | true =>
      have l2 := of_decide_eq_true h2
      have b1 : n < x.length := by omega
      have b2 : n < y.length := by omega
      rw [dif_pos (by omega)] at hcp
      subst hn
      have e1 := fun H => hc.at b1 H
      have e2 := fun H => hd.at b2 H
      rw [hcp]
      simp only [c41, start, List.replicate, c41_0, c41_1, c41_2, q1, q2, s1, s2, p, h1, h2, e1, e2, iv_ld, Q122, Q0, Q1, Q2, Q3, Q4, Q5, Q6, Q7, Q8, Q9, Q10, Q11, Q12, Q13, Q14, Q15, Q16, Q17, Q18, Q19, Q20, Q21, Q22, Q23, Q24, Q25, Q26, Q27, Q28, Q29, Q30, Q31, Q32, Q33, Q35, Q36, Q37, Q38, Q39, Q40, Q41, Q42, Q43, Q44, Q45, Q46, Q47, Q48, Q49, Q50, Q51, Q52, Q53, Q54, Q55, Q56, Q57, Q58, Q59, Q60, Q61, Q62, Q63, Q64, Q65, Q66, Q67, Q68, Q69, Q70, Q71, Q72, Q73, Q99, Q100, Q101, Q102, Q103, Q74, Q75, Q77, Q78, Q79, Q80, Q81, Q82, Q83, Q84, clr, List.length_nil, List.length_cons, List.getElem?_cons_zero, List.getElem?_cons_succ, Nat.reduceAdd, Nat.zero_add, Nat.add_zero, Nat.reduceLeDiff, Nat.reduceSub, ↓reduceIte, List.drop_succ_cons, List.drop_zero, List.take_succ_cons, List.take_zero, Bool.false_eq_true, List.nil_append, List.cons_append, Bool.not_true, Bool.not_false, cond_true, cond_false, bne, Q85, Q86, Q87, Q88, Q89, Q90, Q91, Q92, Q93, Q94, Q95, Q96, Q97, Q98, Q110, Q111, Q116, Q117, Q118, Q119, Q120, Q121, Q122, Q123, Option.map_some, Option.map_none, Q34]
def prunedL (a b : List Int) (d : Int) : Bool := leftL b a && decide ((parts a b : Int) ≥ min d (b.length : Int))
theorem pruned_ok {c e : AV} {x y : List Int} (hc : Ns c x) (he : Ns e y) (d : Int) : callW F 34 [c, e, .v (.int .i64 d)] [] = some (.v (.bool (prunedL x y d)), []) := by
  have q1 := fun H => hc.len H
  have q2 := fun H => he.len H
  have s1 := fun H => hc.sn H
  have s2 := fun H => he.sn H
  have p := parts_ok hc he
  have l := left_ok he hc
  refine callW_pure (c := c34) rfl rfl 0 ?_
  unfold prunedL
  cases h1 : leftL y x <;> rw [h1] at l <;>
    simp only [c34, start, List.replicate, c34_0, c34_1, q1, q2, s1, s2, p, l, Q122, Bool.true_and, Bool.false_and, Q0, Q1, Q2, Q3, Q4, Q5, Q6, Q7, Q8, Q9, Q10, Q11, Q12, Q13, Q14, Q15, Q16, Q17, Q18, Q19, Q20, Q21, Q22, Q23, Q24, Q25, Q26, Q27, Q28, Q29, Q30, Q31, Q32, Q33, Q35, Q36, Q37, Q38, Q39, Q40, Q41, Q42, Q43, Q44, Q45, Q46, Q47, Q48, Q49, Q50, Q51, Q52, Q53, Q54, Q55, Q56, Q57, Q58, Q59, Q60, Q61, Q62, Q63, Q64, Q65, Q66, Q67, Q68, Q69, Q70, Q71, Q72, Q73, Q99, Q100, Q101, Q102, Q103, Q74, Q75, Q77, Q78, Q79, Q80, Q81, Q82, Q83, Q84, clr, List.length_nil, List.length_cons, List.getElem?_cons_zero, List.getElem?_cons_succ, Nat.reduceAdd, Nat.zero_add, Nat.add_zero, Nat.reduceLeDiff, Nat.reduceSub, ↓reduceIte, List.drop_succ_cons, List.drop_zero, List.take_succ_cons, List.take_zero, Bool.false_eq_true, List.nil_append, List.cons_append, Bool.not_true, Bool.not_false, cond_true, cond_false, bne, Q85, Q86, Q87, Q88, Q89, Q90, Q91, Q92, Q93, Q94, Q95, Q96, Q97, Q98, Q110, Q111, Q116, Q117, Q118, Q119, Q120, Q121, Q122, Q123, Option.map_some, Option.map_none, Q34]
theorem lv_b {c : CFun} {H l : List AO} {vars : List AV} {i : Nat} {x : Bool} (hb : H.all (AO.below H.length) = true) (hr : c.res = [.var i]) (hv : vars.getD i .junk = .v (.bool x)) : leave H.length c (some (.ret, vars, H ++ l)) = some (.v (.bool x), H) := by
  rw [leave_own rfl hb, hr, own_res1 (x := .v (.bool x)) (by simp only [resOf, hv])]
  exact lvo_one rfl
theorem h_bx {H l : List AO} {bt : TypeId} {cs : List AV} : bx (H ++ l) bt (some cs) = some (.ptr (H.length + l.length) 0, H ++ (l ++ [.box bt cs])) := own_bx rfl
theorem h_ld {H l : List AO} {a : Bool} {sz k o : Nat} : Q76 (H ++ l) a sz (.ptr (H.length + k) o) = ldAt l k a sz o := own_ld rfl
theorem h_ld0 {H l : List AO} {a : Bool} {sz o : Nat} : Q76 (H ++ l) a sz (.ptr H.length o) = ldAt l 0 a sz o := own_ld0 rfl
theorem Ns.cl' {c : AV} {ns : List Int} (h : Ns c ns) : c.cl = some [c] := Ns.cl1 h
theorem Ns.asE {c : AV} : Q77 false [c] = some c := rfl
theorem IsEn.cl {a : AV} {x : En} (h : IsEn a x) : a.cl = some a.cells := by
  cases h with
  | mk c lab hc k d ts hd e =>
    have h1 := Ns.cl1 hc
    have h2 := IsL.cl1 hd
    simp only [AV.cells]
    obtain ⟨hs, _⟩ := hc
    generalize lab.map iv = es at hs
    cases hs <;> cases hd <;> rfl
theorem cut_ok {a c : AV} {x : En} {y : List Int} {d : Int} {H : List AO} {i j : Nat} (ha : IsEn a x) (hc : Ns c y) (hi : H[i]? = some (.box 23 [c])) (hj : H[j]? = some (.box 3 [.v (.int .i64 d)])) (hb : H.all (AO.below H.length) = true) :
    callW F 33 [a, .ptr i 0, .ptr j 0] H = some (.v (.bool (prunedL x.lab y d)), H) := by
  refine callW_own (c := c33) rfl rfl 0 ?_
  have cl := ha.cl
  cases ha with
  | mk c1 lab h1 k dd ts hd e =>
  have p := pruned_ok h1 hc d
  have s1 := fun H => h1.sn H
  have s2 := fun H => hc.sn H
  have l1 := fun (l : List AO) => bx_ld (h := H ++ l) (id := i) (his_get hi) (a := false) (n := 1) (o := 0)
  have l2 := fun (l : List AO) => bx_ld (h := H ++ l) (id := j) (his_get hj) (a := false) (n := 1) (o := 0)
  simp only [AV.cells] at cl
  have body : exec (callW F) 0 c33.body (start c33 [.agg [c1, .v (.int .i64 k), dd, .v (.int .i64 e)], .ptr i 0, .ptr j 0]) (H ++ []) = some (.ret, [.agg [c1, .v (.int .i64 k), dd, .v (.int .i64 e)], .ptr i 0, .ptr j 0, .ptr H.length 0, .v (.bool (prunedL lab y d))], H ++ [.box 29 [c1, .v (.int .i64 k), dd, .v (.int .i64 e)]]) := by
    simp only [c33, start, List.replicate, c33_0, c33_1, cl, h_bx, h_ld0, ldAt, l1, l2, s1, s2, p, snap_int, Q104, Q105, bs1, bs2, Q106, Q107, Q108, Q109, bd1, Q110, Q111, toL, List.map_cons, List.map_nil, Q112, List.set_cons_zero, List.set_cons_succ, and_self, Nat.le_refl, Q114, Q115, Q116, Q0, Q1, Q2, Q3, Q4, Q5, Q6, Q7, Q8, Q9, Q10, Q11, Q12, Q13, Q14, Q15, Q16, Q17, Q18, Q19, Q20, Q21, Q22, Q23, Q24, Q25, Q26, Q27, Q28, Q29, Q30, Q31, Q32, Q33, Q35, Q36, Q37, Q38, Q39, Q40, Q41, Q42, Q43, Q44, Q45, Q46, Q47, Q48, Q49, Q50, Q51, Q52, Q53, Q54, Q55, Q56, Q57, Q58, Q59, Q60, Q61, Q62, Q63, Q64, Q65, Q66, Q67, Q68, Q69, Q70, Q71, Q72, Q73, Q99, Q100, Q101, Q102, Q103, Q74, Q75, Q77, Q78, Q79, Q80, Q81, Q82, Q83, Q84, clr, List.length_nil, List.length_cons, List.getElem?_cons_zero, List.getElem?_cons_succ, Nat.reduceAdd, Nat.zero_add, Nat.add_zero, Nat.reduceLeDiff, Nat.reduceSub, ↓reduceIte, List.drop_succ_cons, List.drop_zero, List.take_succ_cons, List.take_zero, Bool.false_eq_true, List.nil_append, List.cons_append, Bool.not_true, Bool.not_false, cond_true, cond_false, bne, Q85, Q86, Q87, Q88, Q89, Q90, Q91, Q92, Q93, Q94, Q95, Q96, Q97, Q98]
  rw [body]
  exact lv_b hb rfl rfl
theorem least_ok {a c : AV} {x : En} {y : List Int} {H : List AO} {i : Nat} (ha : IsEn a x) (hc : Ns c y) (hi : H[i]? = some (.box 23 [c])) (hb : H.all (AO.below H.length) = true) :
    callW F 31 [a, .ptr i 0] H = some (.v (.bool (decide (cmpL x.lab y ≥ 0))), H) := by
  refine callW_own (c := c31) rfl rfl 0 ?_
  have cl := ha.cl
  cases ha with
  | mk c1 lab h1 k dd ts hd e =>
  have p := compare_ok h1 hc
  have s1 := fun H => h1.sn H
  have s2 := fun H => hc.sn H
  have l1 := fun (l : List AO) => bx_ld (h := H ++ l) (id := i) (his_get hi) (a := false) (n := 1) (o := 0)
  simp only [AV.cells] at cl
  have body : exec (callW F) 0 c31.body (start c31 [.agg [c1, .v (.int .i64 k), dd, .v (.int .i64 e)], .ptr i 0]) (H ++ []) = some (.ret, [.agg [c1, .v (.int .i64 k), dd, .v (.int .i64 e)], .ptr i 0, .ptr H.length 0, .v (.bool (decide (cmpL lab y ≥ 0)))], H ++ [.box 29 [c1, .v (.int .i64 k), dd, .v (.int .i64 e)]]) := by
    simp only [c31, start, List.replicate, c31_0, c31_1, cl, h_bx, h_ld0, ldAt, l1, s1, s2, p, snap_int, Q104, Q105, bs1, bs2, Q106, Q107, Q108, Q109, bd1, Q110, Q111, toL, List.map_cons, List.map_nil, Q112, List.set_cons_zero, List.set_cons_succ, and_self, Nat.le_refl, Q114, Q115, Q116, Q0, Q1, Q2, Q3, Q4, Q5, Q6, Q7, Q8, Q9, Q10, Q11, Q12, Q13, Q14, Q15, Q16, Q17, Q18, Q19, Q20, Q21, Q22, Q23, Q24, Q25, Q26, Q27, Q28, Q29, Q30, Q31, Q32, Q33, Q35, Q36, Q37, Q38, Q39, Q40, Q41, Q42, Q43, Q44, Q45, Q46, Q47, Q48, Q49, Q50, Q51, Q52, Q53, Q54, Q55, Q56, Q57, Q58, Q59, Q60, Q61, Q62, Q63, Q64, Q65, Q66, Q67, Q68, Q69, Q70, Q71, Q72, Q73, Q99, Q100, Q101, Q102, Q103, Q74, Q75, Q77, Q78, Q79, Q80, Q81, Q82, Q83, Q84, clr, List.length_nil, List.length_cons, List.getElem?_cons_zero, List.getElem?_cons_succ, Nat.reduceAdd, Nat.zero_add, Nat.add_zero, Nat.reduceLeDiff, Nat.reduceSub, ↓reduceIte, List.drop_succ_cons, List.drop_zero, List.take_succ_cons, List.take_zero, Bool.false_eq_true, List.nil_append, List.cons_append, Bool.not_true, Bool.not_false, cond_true, cond_false, bne, Q85, Q86, Q87, Q88, Q89, Q90, Q91, Q92, Q93, Q94, Q95, Q96, Q97, Q98]
  rw [body]
  exact lv_b hb rfl rfl
theorem find_ok {c1 s : AV} {rest : List AV} {l : List En} {y : List Int} {H : List AO} {i j : Nat} (hs : Lg s l) (hc : Ns c1 y) (hi : H[i]? = some (.box 22 [s])) (hj : H[j]? = some (.box 29 (c1 :: rest))) (hb : H.all (AO.below H.length) = true) {n : Nat} (hn : n < l.length) :
    callW F 24 [.v (.int .i64 n), .ptr i 0, .ptr j 0] H = some (.v (.bool (decide (cmpL l[n].lab y ≥ 0))), H) := by
  refine callW_own (c := c24) rfl rfl 0 ?_
  obtain ⟨c2, k, dd, e, e1, n1, _⟩ := hs.at hn
  have p := compare_ok n1 hc
  have s1 := fun H => n1.sn H
  have s2 := fun H => hc.sn H
  have l1 := fun (l : List AO) => bx_ld (h := H ++ l) (id := i) (his_get hi) (a := false) (n := 1) (o := 0)
  have l2 := fun (l : List AO) => bx_ld (h := H ++ l) (id := j) (his_get hj) (a := false) (n := 1) (o := 0)
  have body : exec (callW F) 0 c24.body (start c24 [.v (.int .i64 n), .ptr i 0, .ptr j 0]) (H ++ []) = some (.ret, [.v (.int .i64 n), .ptr i 0, .ptr j 0, .v (.bool (decide (cmpL l[n].lab y ≥ 0)))], H ++ []) := by
    simp only [c24, start, List.replicate, c24_0, c24_1, l1, l2, e1, ip_ld, s1, s2, p, snap_int, Q104, Q105, bs1, bs2, Q106, Q107, Q108, Q109, bd1, Q110, Q111, toL, List.map_cons, List.map_nil, Q112, List.set_cons_zero, List.set_cons_succ, and_self, Nat.le_refl, Q114, Q115, Q116, Q0, Q1, Q2, Q3, Q4, Q5, Q6, Q7, Q8, Q9, Q10, Q11, Q12, Q13, Q14, Q15, Q16, Q17, Q18, Q19, Q20, Q21, Q22, Q23, Q24, Q25, Q26, Q27, Q28, Q29, Q30, Q31, Q32, Q33, Q35, Q36, Q37, Q38, Q39, Q40, Q41, Q42, Q43, Q44, Q45, Q46, Q47, Q48, Q49, Q50, Q51, Q52, Q53, Q54, Q55, Q56, Q57, Q58, Q59, Q60, Q61, Q62, Q63, Q64, Q65, Q66, Q67, Q68, Q69, Q70, Q71, Q72, Q73, Q99, Q100, Q101, Q102, Q103, Q74, Q75, Q77, Q78, Q79, Q80, Q81, Q82, Q83, Q84, clr, List.length_nil, List.length_cons, List.getElem?_cons_zero, List.getElem?_cons_succ, Nat.reduceAdd, Nat.zero_add, Nat.add_zero, Nat.reduceLeDiff, Nat.reduceSub, ↓reduceIte, List.drop_succ_cons, List.drop_zero, List.take_succ_cons, List.take_zero, Bool.false_eq_true, List.nil_append, List.cons_append, Bool.not_true, Bool.not_false, cond_true, cond_false, bne, Q85, Q86, Q87, Q88, Q89, Q90, Q91, Q92, Q93, Q94, Q95, Q96, Q97, Q98]
  rw [body]
  exact lv_b hb rfl rfl
end Go.AE.Ytkdjdhfoodlnfaa
end
