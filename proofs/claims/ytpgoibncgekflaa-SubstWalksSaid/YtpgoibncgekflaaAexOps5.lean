/- AE, part 9: make, stores. -/
import Derived.Test.YtpgoibncgekflaaAexOps4
import Derived.IntWalk
set_option linter.unusedVariables false
set_option linter.unusedSimpArgs false
namespace Go.AE
open Go Go.RowKit

section
variable {P : Program} {B : Nat} {w0 w w' : World} {I I' : Cells} {σ σ' : List Loc} {h : List AO}

theorem wrap_i64 {n : Int} (h0 : -9223372036854775808 ≤ n) (h1 : n ≤ 9223372036854775807) : IntKind.i64.wrap n = n := IntWalk.i64_in n ⟨h0, h1⟩

theorem rep_own_new {sz n cap b : Nat} (hn : n ≤ cap) :
    Rep I w (σ ++ [(⟨false, true, b, 0, cap, 0⟩ : Loc)]) (.own sz σ.length 0 0 n) (.slice (some ⟨b, 0, none⟩) n cap) :=
  .own _ sz _ 0 0 n _ rfl ⟨false, true, b, 0, cap, 0⟩ (by simp) (Nat.le_refl _) (fun _ => .inl ⟨rfl, by simpa using hn, by simp⟩)

/-- A new block as a row of our own. -/
theorem Inv.row_new (hI : Inv B w0 I σ w h) {sz : Nat} {l : List AV} {arr : Array Value} {cap : Nat} (hsz : cap * sz ≤ arr.size) (hlen : l.length ≤ cap)
    (hc : ∀ (j : Nat) (el : AV), l[j]? = some el → el.cells.length = sz)
    (h1 : ∀ (j : Nat) (el : AV) (i : Nat) (c : AV), l[j]? = some el → el.cells[i]? = some c → (arr.getD (j * sz + i) undef).oneCell' = true)
    (hr : ∀ (j : Nat) (el : AV) (i : Nat) (c : AV), l[j]? = some el → el.cells[i]? = some c → Rep I w [] c (arr.getD (j * sz + i) undef)) (e : TypeId) :
    Inv B w0 I (σ ++ [⟨false, true, w.heap.size, 0, cap, 0⟩]) (w.alloc (.cells arr e)) (h ++ [.row sz 0 l 0]) ∧
      Step B I σ w I (σ ++ [⟨false, true, w.heap.size, 0, cap, 0⟩]) (w.alloc (.cells arr e)) := by
  refine hI.grow (.cells arr e) (o' := .row sz 0 l 0) (L' := ⟨false, true, w.heap.size, 0, cap, 0⟩) (fun _ => rfl) (fun he => ⟨rfl, rfl, Nat.zero_le _, hc, .inr ⟨rfl, arr, e, heap_new _, by simpa using hsz, hlen, ?_, ?_, ?_, ?_⟩⟩)
  · intro j el i c a b; simpa using h1 j el i c a b
  · intro j el i c a b; simpa using (hr j el i c a b).mono he (Later.nil _)
  · intro j i hj; omega
  · intro x _ hx; have := hI.imm_lt hx; simp at this

theorem gives_mkslice (hI : Inv B w0 I σ w h) {t e : TypeId} {i : TI} (hu : P.underlying t = some (.slice e)) (ht : TIok P e i)
    (h1 : ∀ x ∈ i.zero.cells.toList, x.oneCell' = true) (hzs : i.zero.cells.size = i.size) {n m : Int} (h0 : 0 ≤ n) (hnm : n ≤ m) (hm : m ≤ 9223372036854775807) (hb : (i.bytes : Int) * m ≤ 281474976710656) :
    Gives P B w0 I σ w (do pure (.value (← Instr.makeSlice t (.int .i64 n) (.int .i64 m)))) (.own i.size h.length 0 0 n.toNat)
      (h ++ [.row i.size 0 (List.replicate n.toNat (zeroEl i.zero.cells.toList)) 0]) := by
  obtain ⟨z, hz1, hz2⟩ : ∃ z : Array Value, z = (if m.toNat * i.size = 0 then #[] else i.zero.cells) ∧ ((m.toNat * i.size = 0 ∧ z = #[]) ∨ z = i.zero.cells) := by
    by_cases h0 : m.toNat * i.size = 0
    · exact ⟨_, rfl, .inl ⟨h0, by rw [if_pos h0]⟩⟩
    · exact ⟨_, rfl, .inr (by rw [if_neg h0])⟩
  have hr := ElemsRep.zeros (I := I) (w := w) m.toNat i.size z i.zero.cells hz2 hzs h1
  have tk : ∀ (j : Nat) (el : AV), (List.replicate n.toNat (zeroEl i.zero.cells.toList))[j]? = some el → (List.replicate m.toNat (zeroEl i.zero.cells.toList))[j]? = some el := by
    intro j el hj
    rw [List.getElem?_replicate] at hj ⊢
    split at hj
    · rw [if_pos (by omega)]; exact hj
    · cases hj
  have g := hI.row_new (sz := i.size) (l := List.replicate n.toNat (zeroEl i.zero.cells.toList)) (cap := m.toNat) (Nat.le_of_eq (by rw [hr.size]; simp)) (by simp; omega)
    (fun j el hj => hr.cells j el (tk j el hj)) (fun j el i c hj hc => hr.one j el i c (tk j el hj) hc) (fun j el i c hj hc => hr.rep j el i c (tk j el hj) hc) e
  refine ⟨.slice (some ⟨w.heap.size, 0, none⟩) n.toNat m.toNat, _, I, _, .inl ?_, g.1, g.2, ?_⟩
  · have w1 : IntKind.i64.wrap n = n := wrap_i64 (by omega) (by omega)
    have w2 : IntKind.i64.wrap m = m := wrap_i64 (by omega) (by omega)
    obtain ⟨inf, q1, q2, q3, q4⟩ := ht.info
    have hb' : ¬ (281474976710656 < (inf.bytes : Int) * m) := by rw [q3]; omega
    have a1 : ¬ m < 0 := by omega
    have a2 : ¬ n < 0 := by omega
    have a3 : ¬ m < n := by omega
    by_cases hz0 : m.toNat * i.size = 0
    · rw [if_pos hz0] at hz1; subst hz1
      simp [Instr.makeSlice, run_underlying hu, asInt, asIntOf, typeInfo, q1, q2, w1, w2, hb', a1, a2, a3, Go.sizeOf, Go.zeroValue, q4, hz0, newRow]
    · rw [if_neg hz0] at hz1; subst hz1
      simp [Instr.makeSlice, run_underlying hu, asInt, asIntOf, typeInfo, q1, q2, w1, w2, hb', a1, a2, a3, Go.sizeOf, Go.zeroValue, q4, hz0, newRow]
  · rw [← hI.len]
    exact rep_own_new (by omega)
end
end Go.AE
