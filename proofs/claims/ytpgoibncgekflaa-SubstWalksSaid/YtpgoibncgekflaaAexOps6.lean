/- AE, part 10: stores. -/
import Derived.Test.YtpgoibncgekflaaAexOps5
set_option linter.unusedVariables false
set_option linter.unusedSimpArgs false
namespace Go.AE
open Go Go.RowKit

section
variable {P : Program} {B : Nat} {w0 w w' : World} {I I' : Cells} {σ σ' : List Loc} {h : List AO}

theorem CellsRep.ones {xs : List AV} {vs : Array Value} (hc : CellsRep I w σ xs vs) : ∀ x ∈ vs.toList, x.oneCell' = true := by
  intro y hy
  obtain ⟨j, hj⟩ := List.getElem?_of_mem hy
  have hj' : j < xs.length := by
    have := (List.getElem?_eq_some_iff.1 hj).1
    simp at this; rw [← hc.size]; exact this
  have h2 := hc.one j _ (List.getElem?_eq_getElem hj')
  rwa [getD_get (by simpa using hj)] at h2

theorem heap_setCells (b o : Nat) : ∀ (vl : List Value) (k : Nat) (w : World) (arr : Array Value) (t : TypeId), w.heap[b]? = some (.cells arr t (0, 0)) →
    (w.setCells b (o + k) vl).heap[b]? = some (.cells ((vl.zipIdx k).foldl (fun (cs : Array Value) (p : Value × Nat) => cs.setIfInBounds (o + p.2) p.1) arr) t (0, 0)) ∧
    (∀ j, j ≠ b → (w.setCells b (o + k) vl).heap[j]? = w.heap[j]?) ∧ (w.setCells b (o + k) vl).heap.size = w.heap.size ∧
    (w.setCells b (o + k) vl).os = w.os ∧ (w.setCells b (o + k) vl).tape = w.tape ∧ (w.setCells b (o + k) vl).output = w.output := by
  intro vl
  induction vl with
  | nil => intro k w arr t hb; exact ⟨by simpa [World.setCells] using hb, fun j _ => rfl, rfl, rfl, rfl, rfl⟩
  | cons v vl ih =>
    intro k w arr t hb
    have hb' : (w.setCell ⟨b, o + k, none⟩ v).heap[b]? = some (.cells (arr.setIfInBounds (o + k) v) t (0, 0)) := by
      simp [World.setCell, Array.getElem?_modify, hb]
    obtain ⟨h1, h2, h3, h4, h5, h6⟩ := ih (k + 1) (w.setCell ⟨b, o + k, none⟩ v) _ t hb'
    simp only [World.setCells, List.zipIdx_cons, List.foldl_cons]
    rw [show o + k + 1 = o + (k + 1) by omega]
    refine ⟨h1, fun j hj => (h2 j hj).trans (Below.heap_setCell w _ v j hj), h3.trans (by simp [World.setCell]), h4, h5, h6⟩

/-- Cells of one of our blocks are written. -/
theorem run_storeVar_ours {t : TypeId} {i : TI} (ht : TIok P t i) {b o : Nat} {v : Value} {arr : Array Value} {e : TypeId} (hb : w.heap[b]? = some (.cells arr e (0, 0)))
    (hs : v.cells.size = i.size) (hle : o + v.cells.size ≤ arr.size) (h1 : ∀ x ∈ v.cells.toList, x.oneCell' = true) (hB : B ≤ b) :
    ∃ w1, (storeVar t ⟨b, o, none⟩ v).run P w = .ok () w1 ∧
      w1.heap[b]? = some (.cells (v.cells.zipIdx.foldl (fun (cs : Array Value) (p : Value × Nat) => cs.setIfInBounds (o + p.2) p.1) arr) e (0, 0)) ∧
      (∀ j, j ≠ b → w1.heap[j]? = w.heap[j]?) ∧ w1.heap.size = w.heap.size ∧ Below B w w1 := by
  have cell : ∀ j, j < v.cells.toList.length → (w.cell? ⟨b, o + j, none⟩).isSome = true := by
    intro j hj
    have : o + j < arr.size := by simp at hj; omega
    simp [World.cell?, hb, this]
  have hst := run_storeCells_cells (P := P) b o v.cells.toList 0 w (by simpa using cell) (fun j hj => by simp [World.frozen?, hb]) h1
  obtain ⟨g1, g2, g3, g4, g5, g6⟩ := heap_setCells b o v.cells.toList 0 w arr e hb
  refine ⟨_, ?_, ?_, g2, g3, g4, g5, g6, Nat.le_of_eq g3.symm, fun j hj => g2 j (by omega)⟩
  · simp only [storeVar, Sem.run_bind, ht.sizeOf, Result.andThen_ok]
    rw [if_neg (by simp [hs])]
    simpa using hst
  · rw [← Array.foldl_toList, Array.toList_zipIdx]; exact g1

theorem ext_ours {b : Nat} (hI : ∀ x, ¬ I b x) (w1 : World) (hoth : ∀ j, j ≠ b → w1.heap[j]? = w.heap[j]?) : Ext I w I w1 :=
  ⟨fun _ _ hx => hx, fun b' x hx => by
    have hne : b' ≠ b := by rintro rfl; exact hI x hx
    exact World.cell?_of_block (a := ⟨b', x, none⟩) (hoth b' hne)⟩

theorem gives_store_box (hI : Inv B w0 I σ w h) {t : TypeId} {i : TI} (ht : TIok P t i) {id off : Nat} {L : Loc} (hL : σ[id]? = some L) {cs xs : List AV}
    (ho : h[id]? = some (.box cs)) {x : AV} {vx : Value} (hx : Rep I w σ x vx) (hcl : x.cl = some xs) (hlen : xs.length = i.size) (hle : off + i.size ≤ cs.length) :
    Gives P B w0 I σ w (do Instr.storeAt t (.pointer (some ⟨L.b, L.o + off, none⟩)) vx; pure .skip) (.v undef) (h.set id (.box (putAt cs off xs))) := by
  obtain ⟨hf, hh, hR⟩ := hI.obj id _ L ho hL
  obtain ⟨arr, e, hb, hs, h1, hr⟩ := hR.lies
  have hcs := hx.cells hcl
  have hBb := hI.mine id L hL hh
  have one := hcs.ones
  obtain ⟨w1, g1, g2, g3, g4, g5⟩ := run_storeVar_ours (P := P) (w := w) (B := B) ht (o := L.o + off) hb (by rw [hcs.size]; exact hlen) (by rw [hcs.size, hR.o]; omega) one hBb.1
  have he : Ext I w I w1 := ext_ours hR.apart w1 g3
  have hput := (CellsRep.put (I := I) (w := w) (σ := σ) ⟨hs, h1, hr⟩ hcs (L.o + off)).mono he (Later.refl _)
  rw [hR.o, Nat.zero_add] at g2 hput
  have hset : σ.set id L = σ := by
    apply List.ext_getElem?
    intro j
    by_cases e : id = j
    · subst e; rw [List.getElem?_set_self (List.getElem?_eq_some_iff.1 hL).1, hL]
    · rw [List.getElem?_set_ne e]
  have hinv := hI.upd hL g5 he (fun b x hx => by obtain ⟨v, hv⟩ := hI.imm b x hx; exact ⟨v, by rw [he.cell b x hx]; exact hv⟩)
    (fun j Lj hj hLj hhj => ⟨g3 _ (hI.dist j id Lj L hLj hL hj hhj hh), fun x hx => hx⟩) (.inl rfl) (o' := .box (putAt cs off xs))
    (by rw [hset]; exact ⟨hf, hh, hR.o, ⟨_, e, g2, hput.size, hput.one, hput.rep⟩, hR.apart⟩)
    (fun _ => ⟨hBb.1, by rw [g4]; exact hBb.2, fun j Lj hj hLj hhj => hI.dist j id Lj L hLj hL hj hhj hh⟩)
  rw [hset] at hinv
  refine ⟨undef, w1, I, σ, .inr ⟨?_, rfl⟩, hinv, ⟨he, Later.refl _, fun b x hx => .inl hx, Nat.le_of_eq g4.symm⟩, .v _ _⟩
  simp only [Instr.storeAt, Instr.sureAddr, Sem.run_bind, Sem.run_pure, Result.andThen_ok, g1]

theorem putEl_cells {el : AV} {off : Nat} {ys : List AV} (hle : off + ys.length ≤ el.cells.length) (hc : ys.all AV.isCell = true) : (putEl el off ys).cells = putAt el.cells off ys := by
  cases el with
  | agg cs => rfl
  | _ =>
    simp only [AV.cells, List.length_singleton] at hle
    match ys, hc with
    | [], _ => rfl
    | [y], hc =>
      obtain rfl : off = 0 := by simp at hle; omega
      cases y <;> first | rfl | (simp [AV.isCell] at hc)
    | _ :: _ :: _, _ => simp at hle; omega

theorem putAt_get (cs : List AV) (off : Nat) (ys : List AV) (j : Nat) (c : AV) (hle : off + ys.length ≤ cs.length) (hj : (putAt cs off ys)[j]? = some c) :
    (off ≤ j ∧ ys[j - off]? = some c) ∨ (¬ (off ≤ j ∧ j < off + ys.length) ∧ cs[j]? = some c) := by
  induction ys generalizing cs off with
  | nil => exact .inr ⟨by simp, hj⟩
  | cons y ys ih =>
    simp only [List.length_cons] at hle
    rcases ih (cs.set off y) (off + 1) (by simp; omega) hj with ⟨h1, h2⟩ | ⟨h1, h2⟩
    · refine .inl ⟨by omega, ?_⟩
      rw [show j - off = (j - (off + 1)) + 1 by omega]; simpa using h2
    · by_cases e : off = j
      · subst e
        rw [List.getElem?_set_self (by omega)] at h2
        exact .inl ⟨Nat.le_refl _, by simpa using h2⟩
      · rw [List.getElem?_set_ne e] at h2
        exact .inr ⟨by simp only [List.length_cons]; omega, h2⟩

theorem gives_store_row (hI : Inv B w0 I σ w h) {t : TypeId} {i : TI} (ht : TIok P t i) {sz id ver idx off : Nat} {L : Loc} (hL : σ[id]? = some L) {l : List AV} {k : Nat}
    (ho : h[id]? = some (.row sz ver l k)) {x : AV} {vx : Value} (hx : Rep I w σ x vx) {y el : AV} {ys : List AV} (hsn : x.snap1 h = some y) (hcl : y.cl = some ys) (hel : l[idx]? = some el)
    (hk : k ≤ idx) (hlen : ys.length = i.size) (hle : off + i.size ≤ el.cells.length) (hcell : ys.all AV.isCell = true) :
    Gives P B w0 I σ w (do Instr.storeAt t (.pointer (some ⟨L.b, L.o + (idx * sz + off), none⟩)) vx; pure .skip) (.v undef) (h.set id (.row sz ver (l.set idx (putEl el off ys)) k)) := by
  have hne : l ≠ [] := by rintro rfl; simp at hel
  obtain ⟨hf, hver, hR⟩ := hI.obj id _ L ho hL
  rcases hR.lies with ⟨h0, _⟩ | ⟨hh, arr, e, hb, hasz, hcap, h1, hr, himm, hno⟩
  · exact absurd h0 hne
  have hidx := (List.getElem?_eq_some_iff.1 hel).1
  have helc := hR.hsz idx el hel
  have hcs := (hx.snap1 hI hsn).cells hcl
  have hBb := hI.mine id L hL hh
  have mul : ∀ a b, a < b → a * sz + sz ≤ b * sz := fun a b hab => by
    have := Nat.mul_le_mul_right sz (show a + 1 ≤ b from hab)
    rwa [Nat.add_mul, Nat.one_mul] at this
  have one := hcs.ones
  have hcsz := hcs.size
  have m1 := mul idx L.cap (by omega)
  obtain ⟨w1, g1, g2, g3, g4, g5⟩ := run_storeVar_ours (P := P) (w := w) (B := B) ht (o := L.o + (idx * sz + off)) hb (by rw [hcsz]; exact hlen) (by omega) one hBb.1
  have hko : k * sz ≤ idx * sz := Nat.mul_le_mul_right _ hk
  have he : Ext I w I w1 := by
    refine ⟨fun _ _ hx => hx, fun b' x hx => ?_⟩
    by_cases hne : b' = L.b
    · subst hne
      have hlt : x < L.o + k * sz := by
        rcases Nat.lt_or_ge x (L.o + k * sz) with h2 | h2
        · exact h2
        · exact absurd hx (hno x h2)
      have f2 := (foldl_put vx.cells (L.o + (idx * sz + off)) arr (by omega)).2 x
      have f1 := (foldl_put vx.cells (L.o + (idx * sz + off)) arr (by omega)).1
      rw [if_neg (by omega)] at f2
      unfold World.cell?
      simp only [g2, hb]
      rw [Array.getD_eq_getD_getElem?, Array.getD_eq_getD_getElem?] at f2
      have : x < arr.size := by have := mul k L.cap; rcases Nat.lt_or_ge k L.cap with h3 | h3; · have := mul k L.cap h3; omega
                                · omega
      simp only [Option.isSome_none, Bool.false_eq_true, if_false]
      rw [Array.getElem?_eq_getElem (by rw [f1]; exact this), Array.getElem?_eq_getElem this] at f2 ⊢
      simpa using f2
    · exact World.cell?_of_block (a := ⟨b', x, none⟩) (g3 b' hne)
  have hset : σ.set id L = σ := by
    apply List.ext_getElem?
    intro j
    by_cases e : id = j
    · subst e; rw [List.getElem?_set_self (List.getElem?_eq_some_iff.1 hL).1, hL]
    · rw [List.getElem?_set_ne e]
  obtain ⟨f1, f2⟩ := foldl_put vx.cells (L.o + (idx * sz + off)) arr (by omega)
  have get : ∀ (a : Nat) (b : AV), (l.set idx (putEl el off ys))[a]? = some b → (a = idx ∧ b = putEl el off ys) ∨ (a ≠ idx ∧ l[a]? = some b) := by
    intro a b hb
    by_cases e : idx = a
    · subst e; rw [List.getElem?_set_self hidx] at hb; cases hb; exact .inl ⟨rfl, rfl⟩
    · rw [List.getElem?_set_ne e] at hb; exact .inr ⟨fun e' => e e'.symm, hb⟩
  have pc := putEl_cells (el := el) (off := off) (ys := ys) (by omega) hcell
  have val : ∀ (a : Nat) (b : AV) (q : Nat) (c : AV), (l.set idx (putEl el off ys))[a]? = some b → b.cells[q]? = some c →
      (∃ q', ys[q']? = some c ∧ (vx.cells.zipIdx.foldl (fun (cs : Array Value) (p : Value × Nat) => cs.setIfInBounds (L.o + (idx * sz + off) + p.2) p.1) arr).getD (L.o + (a * sz + q)) undef = vx.cells.getD q' undef) ∨
      (∃ b', l[a]? = some b' ∧ b'.cells[q]? = some c ∧ (vx.cells.zipIdx.foldl (fun (cs : Array Value) (p : Value × Nat) => cs.setIfInBounds (L.o + (idx * sz + off) + p.2) p.1) arr).getD (L.o + (a * sz + q)) undef = arr.getD (L.o + (a * sz + q)) undef) := by
    intro a b q c hb hc
    rcases get a b hb with ⟨rfl, rfl⟩ | ⟨hna, hb⟩
    · rw [pc] at hc
      rcases putAt_get el.cells off ys q c (by omega) hc with ⟨p1, p2⟩ | ⟨p1, p2⟩
      · refine .inl ⟨q - off, p2, ?_⟩
        have := (List.getElem?_eq_some_iff.1 p2).1
        rw [f2, if_pos (by omega)]
        congr 1; omega
      · refine .inr ⟨el, hel, p2, ?_⟩
        rw [f2, if_neg (by omega)]
    · refine .inr ⟨b, hb, hc, ?_⟩
      have hq := (List.getElem?_eq_some_iff.1 hc).1
      rw [hR.hsz a b hb] at hq
      rw [f2, if_neg]
      rintro ⟨p, q⟩
      rcases Nat.lt_or_gt_of_ne hna with hlt | hlt
      · have := mul a idx hlt; omega
      · have := mul idx a hlt; omega
  have hinv := hI.upd hL g5 he (fun b x hx => by obtain ⟨v, hv⟩ := hI.imm b x hx; exact ⟨v, by rw [he.cell b x hx]; exact hv⟩)
    (fun j Lj hj hLj hhj => ⟨g3 _ (hI.dist j id Lj L hLj hL hj hhj hh), fun x hx => hx⟩) (.inl rfl) (o' := .row sz ver (l.set idx (putEl el off ys)) k)
    (by
      rw [hset]
      refine ⟨hf, hver, by simpa using hR.hk, ?_, .inr ⟨hh, _, e, g2, by rw [f1]; exact hasz, by simpa using hcap, ?_, ?_, himm, hno⟩⟩
      · intro a b hb
        rcases get a b hb with ⟨_, rfl⟩ | ⟨_, hb⟩
        · rw [pc, putAt_length]; exact helc
        · exact hR.hsz a b hb
      · intro a b q c hb hc
        rcases val a b q c hb hc with ⟨q', v1, v2⟩ | ⟨b', v1, v2, v3⟩
        · rw [v2]; exact hcs.one q' c v1
        · rw [v3]; exact h1 a b' q c v1 v2
      · intro a b q c hb hc
        rcases val a b q c hb hc with ⟨q', v1, v2⟩ | ⟨b', v1, v2, v3⟩
        · rw [v2]; exact (hcs.rep q' c v1).mono he (Later.nil _)
        · rw [v3]; exact (hr a b' q c v1 v2).mono he (Later.nil _))
    (fun _ => ⟨hBb.1, by rw [g4]; exact hBb.2, fun j Lj hj hLj hhj => hI.dist j id Lj L hLj hL hj hhj hh⟩)
  rw [hset] at hinv
  refine ⟨undef, w1, I, σ, .inr ⟨?_, rfl⟩, hinv, ⟨he, Later.refl _, fun b x hx => .inl hx, Nat.le_of_eq g4.symm⟩, .v _ _⟩
  simp [Instr.storeAt, Instr.sureAddr, g1]
end
end Go.AE
