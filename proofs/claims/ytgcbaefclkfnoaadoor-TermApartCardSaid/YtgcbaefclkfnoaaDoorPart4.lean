/- Texts of this claim, put together. -/
import Derived.Test.YtgcbaefclkfnoaaDoorPart3
import Derived.Test.YtgcbaefclkfnoaaDoorPart1
import Derived.Test.YtgcbaefclkfnoaaDoorRows
import Derived.WalkKit
import Derived.ProofKit
import Derived.OpenShut
import Derived.ShutString
import Derived.ChangeOld
import Derived.Below
import Derived.SizedLaws
import Derived.Test.YtgcbaefclkfnoaaDoorTie
import Derived.Test.YtgcbaefclkfnoaaDoorCards
import Derived.Lib.LaidIn
import Derived.Lib.LaidU8T
import Derived.KernelRfl
import Derived.Handed
import Derived.SevenTiedAt
/-! TermApart: same text, same term, the same in the order. -/
section
set_option linter.unusedVariables false
set_option linter.unusedSimpArgs false
namespace Go.AE.YtgcbaefclkfnoaaDoor
open Go Go.AE Go.Proofs.YtgcbaefclkfnoaaDoor

theorem cmpI_zero {a b : Int} : cmpI a b = 0 ↔ a = b := by
  unfold cmpI
  simp only [decide_eq_true_eq]
  split
  · constructor <;> intro h <;> omega
  · split
    · constructor <;> intro h <;> omega
    · constructor <;> intro h <;> omega
theorem cmpS_zero {s s' : ByteArray} : cmpS s s' = 0 ↔ s = s' := by
  unfold cmpS
  rw [bytes_zero]
  exact ⟨fun h => bl_inj h, fun h => by rw [h]⟩
theorem orL_zero {a b c d : Int} : orL [a, b, c, d] = 0 ↔ a = 0 ∧ b = 0 ∧ c = 0 ∧ d = 0 := by
  simp only [orL, beq_iff_eq]
  constructor
  · intro h
    split at h
    · split at h
      · split at h
        · split at h <;> omega
        · contradiction
      · contradiction
    · contradiction
  · rintro ⟨h1, h2, h3, h4⟩
    rw [if_pos h1, if_pos h2, if_pos h3, if_pos h4]
theorem ordK_inj {k k' : Int} (h : k = 1 ∨ k = 2 ∨ k = 3 ∨ k = 4) (h' : k' = 1 ∨ k' = 2 ∨ k' = 3 ∨ k' = 4) (e : ordK k = ordK k') : k = k' := by
  rcases h with rfl | rfl | rfl | rfl <;> rcases h' with rfl | rfl | rfl | rfl <;> first | rfl | exact absurd e (by decide)
theorem may_k {k n : Int} {s : ByteArray} {l : List Tm} (h : mayT (.mk k s n l) = true) : k = 1 ∨ k = 2 ∨ k = 3 ∨ k = 4 := by
  rcases may_kinds h with h | h | h | h
  · exact .inl h.1
  · exact .inr (.inr (.inl h.1))
  · exact .inr (.inl h.1)
  · exact .inr (.inr (.inr h.1))
theorem mayL_all : ∀ {l : List Tm}, mayL l = true → ∀ a ∈ l, mayT a = true
  | [], _, a, h => by cases h
  | b :: l, h, a, ha => by
    rw [mayL, Bool.and_eq_true] at h
    exact (List.mem_cons.1 ha).elim (fun e => e ▸ h.1) (fun ha => mayL_all h.2 a ha)
theorem comp_zero : ∀ (N : Nat) (t u : Tm), SizeOf.sizeOf t < N → mayT t = true → mayT u = true → (compT t u = 0 ↔ t = u) := by
  intro N
  induction N with
  | zero => intro t u h; omega
  | succ N ih =>
    intro t u hN ht hu
    cases t with
    | mk k s n l =>
    cases u with
    | mk k' s' n' l' =>
    have lists : ∀ (m m' : List Tm), (∀ a ∈ m, SizeOf.sizeOf a < N ∧ mayT a = true) → (∀ a ∈ m', mayT a = true) → m.length = m'.length → (compL m m' = 0 ↔ m = m') := by
      intro m
      induction m with
      | nil =>
        intro m' _ _ hl
        have : m' = [] := List.length_eq_zero_iff.1 hl.symm
        subst this
        rw [compL]; simp
      | cons a m ihm =>
        intro m' h h' hl
        cases m' with
        | nil => simp at hl
        | cons b m' =>
          have ha := h a (by simp)
          have h1 := ih a b ha.1 ha.2 (h' b (by simp))
          have h2 := ihm m' (fun c hc => h c (by simp [hc])) (fun c hc => h' c (by simp [hc])) (by simpa using hl)
          rw [compL, List.cons.injEq, ← h1, ← h2]
          by_cases hc : compT a b = 0
          · rw [if_pos (by simpa using hc)]; simp [hc]
          · rw [if_neg (by simpa using hc)]; simp [hc]
    have hk := may_k ht
    have hk' := may_k hu
    have hm := mayL_all (may_args ht)
    have hm' := mayL_all (may_args hu)
    rw [compT]
    constructor
    · intro h
      split at h
      · rename_i h0
        simp only [beq_iff_eq, headC, orL_zero, cmpI_zero, cmpS_zero] at h0
        obtain ⟨e1, e2, rfl, rfl⟩ := h0
        have e1 := ordK_inj hk hk' e1
        subst e1
        have := (lists l l' (fun c hc => ⟨by have := IsL.mem_size (k := k) (n := n) (s := s) hc; omega, hm c hc⟩) hm' (by omega)).1 h
        rw [this]
      · rename_i h0
        exact absurd h (by simpa using h0)
    · intro h
      cases h
      have hz : headC k s n l k s n l = 0 := by
        simp only [headC, orL_zero, cmpI_zero, cmpS_zero, and_self]
      rw [if_pos (by rw [hz]; rfl)]
      exact (lists l l (fun c hc => ⟨by have := IsL.mem_size (k := k) (n := n) (s := s) hc; omega, hm c hc⟩) hm rfl).2 rfl
theorem text_same {t u : Tm} (ht : (checkT t == 0) = true) (hu : (checkT u == 0) = true) : ((textT t).toList == (textT u).toList) = sameT t u := by
  have h1 := same_iff _ t u (Nat.lt_succ_self _)
  cases h : sameT t u with
  | true =>
    rw [h1.1 h]
    exact beq_self_eq_true _
  | false =>
    cases h2 : ((textT t).toList == (textT u).toList) with
    | false => rfl
    | true =>
      have e := toL_inj (eq_of_beq h2)
      unfold textT at e
      rw [if_pos ht, if_pos hu] at e
      have e2 := congrArg bl e
      simp only [bl] at e2
      have := (wr_inj _ t u (Nat.lt_succ_self _) (check_may' ht) (check_may' hu) [] [] (.inl rfl) (.inl rfl) (by rw [List.append_nil, List.append_nil]; exact e2)).1
      rw [h1.2 this] at h
      cases h
theorem comp_same {t u : Tm} (ht : (checkT t == 0) = true) (hu : (checkT u == 0) = true) : (compT t u == 0) = sameT t u := by
  have h1 := same_iff _ t u (Nat.lt_succ_self _)
  have h2 := comp_zero _ t u (Nat.lt_succ_self _) (check_may' ht) (check_may' hu)
  cases h : sameT t u with
  | true => simpa using h2.2 (h1.1 h)
  | false =>
    cases h3 : (compT t u == 0) with
    | false => rfl
    | true =>
      rw [h1.2 (h2.1 (by simpa using h3))] at h
      cases h
theorem eqb_s {h : List AO} {x : Bool} : eqH h false (eqNil h .bool (.v (.bool x)) (.v (.bool x))) = some (.v (.bool true), h) := by cases x <;> rfl
theorem apart_ok {a b : AV} {t u : Tm} (ha : IsT a t) (hb : IsT b u) (hrt : rgT t) (hru : rgT u) : callW F 4 [a, b] [] = some (.v (.bool true), []) := by
  refine callW_pure (c := c4) rfl rfl 0 ?_
  have hlive := live_ok
  have hfa := ha.facts
  have hfb := hb.facts
  have hbig := big_ok (isL2 ha hb)
  have bxa : bx [] 24 (some a.cells) = some (.ptr 0 0, [.box 24 a.cells]) := rfl
  have bxb : bx [.box 24 a.cells] 24 (some b.cells) = some (.ptr 1 0, [.box 24 a.cells, .box 24 b.cells]) := rfl
  have e1 : Q76 [.box 24 a.cells, .box 24 b.cells] true 4 (.ptr 0 0) = some a := hfa.2.2.2.1 [] 24
  have e2 : Q76 [.box 24 a.cells, .box 24 b.cells] true 4 (.ptr 1 0) = some b := hfb.2.2.2.1 [.box 24 a.cells] 24
  have b2 : ∀ h : List AO, bs2 h 4 (some a) (some b) = some (.slc 4 true true [a, b], h) := by
    intro h
    obtain ⟨x1, x2⟩ := ha.cl
    obtain ⟨y1, y2⟩ := hb.cl
    simp [bs2, x1, y1, x2, y2]
  have sl : ∀ h : List AO, (AV.slc 4 true true [a, b]).snap1 h = some (.slc 4 true true [a, b]) := fun _ => rfl
  cases hB : bigT [t, u] with
  | true => rw [hB] at hbig; simp only [c4, start, List.replicate, c4_0, c4_1, c4_2, c4_3, hlive, hfa, hfb, bxa, bxb, e1, e2, b2, sl, hbig, Q105, Q0, Q1, Q2, Q3, Q4, Q5, Q6, Q7, Q8, Q9, Q10, Q11, Q12, Q13, Q14, Q15, Q16, Q17, Q18, Q19, Q20, Q21, Q22, Q23, Q24, Q25, Q26, Q27, Q28, Q29, Q30, Q31, Q32, Q33, Q35, Q36, Q37, Q38, Q39, Q40, Q41, Q42, Q43, Q44, Q45, Q46, Q47, Q48, Q49, Q50, Q51, Q52, Q53, Q54, Q55, Q56, Q57, Q58, Q59, Q60, Q61, Q62, Q63, Q64, Q65, Q66, Q67, Q68, Q69, Q70, Q71, Q72, Q73, Q99, Q100, Q101, Q102, Q103, Q74, Q75, Q77, Q78, Q79, Q80, Q81, Q82, Q83, Q84, clr, List.length_nil, List.length_cons, List.getElem?_cons_zero, List.getElem?_cons_succ, Nat.reduceAdd, Nat.zero_add, Nat.add_zero, Nat.reduceLeDiff, Nat.reduceSub, ↓reduceIte, List.drop_succ_cons, List.drop_zero, List.take_succ_cons, List.take_zero, Bool.false_eq_true, List.nil_append, List.cons_append, Bool.not_true, Bool.not_false, cond_true, cond_false, bne, Q85, Q86, Q87, Q88, Q89, Q90, Q91, Q92, Q93, Q94, Q95, Q96, Q97, Q98, Q110, Q111, Q116, Q117, Q118, Q119, Q120, Q121, Q122, Q123, Option.map_some, Option.map_none]
  | false =>
  rw [hB] at hbig
  have hsz := big_size hB
  have t1 := text_ok ha hrt (hsz t (by simp))
  have t2 := text_ok hb hru (hsz u (by simp))
  cases g1 : (checkT t == 0) with
  | false => simp only [c4, start, List.replicate, c4_0, c4_1, c4_2, c4_4, c4_5, c4_6, c4_7, hlive, hfa, hfb, bxa, bxb, e1, e2, b2, sl, hbig, Q105, t1, t2, g1, Q0, Q1, Q2, Q3, Q4, Q5, Q6, Q7, Q8, Q9, Q10, Q11, Q12, Q13, Q14, Q15, Q16, Q17, Q18, Q19, Q20, Q21, Q22, Q23, Q24, Q25, Q26, Q27, Q28, Q29, Q30, Q31, Q32, Q33, Q35, Q36, Q37, Q38, Q39, Q40, Q41, Q42, Q43, Q44, Q45, Q46, Q47, Q48, Q49, Q50, Q51, Q52, Q53, Q54, Q55, Q56, Q57, Q58, Q59, Q60, Q61, Q62, Q63, Q64, Q65, Q66, Q67, Q68, Q69, Q70, Q71, Q72, Q73, Q99, Q100, Q101, Q102, Q103, Q74, Q75, Q77, Q78, Q79, Q80, Q81, Q82, Q83, Q84, clr, List.length_nil, List.length_cons, List.getElem?_cons_zero, List.getElem?_cons_succ, Nat.reduceAdd, Nat.zero_add, Nat.add_zero, Nat.reduceLeDiff, Nat.reduceSub, ↓reduceIte, List.drop_succ_cons, List.drop_zero, List.take_succ_cons, List.take_zero, Bool.false_eq_true, List.nil_append, List.cons_append, Bool.not_true, Bool.not_false, cond_true, cond_false, bne, Q85, Q86, Q87, Q88, Q89, Q90, Q91, Q92, Q93, Q94, Q95, Q96, Q97, Q98, Q110, Q111, Q116, Q117, Q118, Q119, Q120, Q121, Q122, Q123, Option.map_some, Option.map_none]
  | true =>
  cases g2 : (checkT u == 0) with
  | false => simp only [c4, start, List.replicate, c4_0, c4_1, c4_2, c4_4, c4_5, c4_6, c4_7, hlive, hfa, hfb, bxa, bxb, e1, e2, b2, sl, hbig, Q105, t1, t2, g1, g2, Q0, Q1, Q2, Q3, Q4, Q5, Q6, Q7, Q8, Q9, Q10, Q11, Q12, Q13, Q14, Q15, Q16, Q17, Q18, Q19, Q20, Q21, Q22, Q23, Q24, Q25, Q26, Q27, Q28, Q29, Q30, Q31, Q32, Q33, Q35, Q36, Q37, Q38, Q39, Q40, Q41, Q42, Q43, Q44, Q45, Q46, Q47, Q48, Q49, Q50, Q51, Q52, Q53, Q54, Q55, Q56, Q57, Q58, Q59, Q60, Q61, Q62, Q63, Q64, Q65, Q66, Q67, Q68, Q69, Q70, Q71, Q72, Q73, Q99, Q100, Q101, Q102, Q103, Q74, Q75, Q77, Q78, Q79, Q80, Q81, Q82, Q83, Q84, clr, List.length_nil, List.length_cons, List.getElem?_cons_zero, List.getElem?_cons_succ, Nat.reduceAdd, Nat.zero_add, Nat.add_zero, Nat.reduceLeDiff, Nat.reduceSub, ↓reduceIte, List.drop_succ_cons, List.drop_zero, List.take_succ_cons, List.take_zero, Bool.false_eq_true, List.nil_append, List.cons_append, Bool.not_true, Bool.not_false, cond_true, cond_false, bne, Q85, Q86, Q87, Q88, Q89, Q90, Q91, Q92, Q93, Q94, Q95, Q96, Q97, Q98, Q110, Q111, Q116, Q117, Q118, Q119, Q120, Q121, Q122, Q123, Option.map_some, Option.map_none]
  | true =>
  have s1 := same_ok _ t u a b (Nat.lt_succ_self _) ha hb
  have c1 := comp_ok _ t u a b (Nat.lt_succ_self _) ha hb
  have c2 := comp_ok _ u t b a (Nat.lt_succ_self _) hb ha
  have k1 := text_same g1 g2
  have k2 := comp_same g1 g2
  obtain ⟨a1, a2, a3⟩ := a2_compT _ t u (Nat.lt_succ_self _)
  rw [a1] at c2
  generalize compT t u = x at c1 c2 k2 a2 a3
  generalize sameT t u = s at s1 k1 k2
  generalize textT t = W at t1 k1
  generalize textT u = W' at t2 k1
  have n1 : IntKind.i64.wrap (0 - x) = -x := by rw [IntWalk.i64_in]; all_goals omega
  have z : (-x == -x) = true := beq_self_eq_true _
  have d1 : decide (x ≥ -1) = true := decide_eq_true a2
  have d2 : decide (x ≤ 1) = true := decide_eq_true a3
  simp only [c4, start, List.replicate, c4_0, c4_1, c4_2, c4_4, c4_5, c4_6, c4_8, c4_9, hlive, hfa, hfb, bxa, bxb, e1, e2, b2, sl, hbig, Q105, t1, t2, g1, g2, s1, c1, c2, k1, k2, n1, z, d1, d2, eqb_s, Q0, Q1, Q2, Q3, Q4, Q5, Q6, Q7, Q8, Q9, Q10, Q11, Q12, Q13, Q14, Q15, Q16, Q17, Q18, Q19, Q20, Q21, Q22, Q23, Q24, Q25, Q26, Q27, Q28, Q29, Q30, Q31, Q32, Q33, Q35, Q36, Q37, Q38, Q39, Q40, Q41, Q42, Q43, Q44, Q45, Q46, Q47, Q48, Q49, Q50, Q51, Q52, Q53, Q54, Q55, Q56, Q57, Q58, Q59, Q60, Q61, Q62, Q63, Q64, Q65, Q66, Q67, Q68, Q69, Q70, Q71, Q72, Q73, Q99, Q100, Q101, Q102, Q103, Q74, Q75, Q77, Q78, Q79, Q80, Q81, Q82, Q83, Q84, clr, List.length_nil, List.length_cons, List.getElem?_cons_zero, List.getElem?_cons_succ, Nat.reduceAdd, Nat.zero_add, Nat.add_zero, Nat.reduceLeDiff, Nat.reduceSub, ↓reduceIte, List.drop_succ_cons, List.drop_zero, List.take_succ_cons, List.take_zero, Bool.false_eq_true, List.nil_append, List.cons_append, Bool.not_true, Bool.not_false, cond_true, cond_false, bne, Q85, Q86, Q87, Q88, Q89, Q90, Q91, Q92, Q93, Q94, Q95, Q96, Q97, Q98, Q110, Q111, Q116, Q117, Q118, Q119, Q120, Q121, Q122, Q123, Option.map_some, Option.map_none]
end Go.AE.YtgcbaefclkfnoaaDoor
end

/-! What all rows of this program need. -/
section
set_option linter.unusedVariables false
namespace Go.Proofs.YtgcbaefclkfnoaaDoor
open Go Go.AE Go.Proofs Go.ChangeShapes Go.WideShapes Go.ChangeAt Go.RowKit
open Go.ChangeMaps (open_string shut_string)

theorem own : ownKnob Tryd.prog.godebug = none := by kernel_rfl
theorem laidOut : laidOutB Tryd.prog = true := by kernel_rfl
theorem mixed : Tryd.prog.follows .mixedOrders = true := by kernel_rfl
def G : List TypeId := [2, 3, 9, 22, 24]
theorem hG : goodB T G = true := by kernel_rfl

theorem law_calls {f : FuncId} {args : List AV} {vals : Array Value} {W : World} (hK : K W.heap.size W) (ha : ArgsRep (AllCells W) W [] args vals) {n : Nat} (he : callN F n f args [] = some (.v (.bool true), [])) :
    Calls Tryd.prog f vals W fun e W' => e = .returned (.bool true) ∧ Below W.heap.size W W' := by
  have hI : AE.Inv W.heap.size W (AllCells W) [] W [] := ⟨Below.refl _ _, Nat.le_refl _, rfl, fun id o L h => by simp at h, fun id L h => by simp at h, fun i j Li Lj h => by simp at h, fun b x h => h⟩
  refine ((callN_ok mixed hT hKs hF n W.heap.size W hK).calls f args [] _ _ he (AllCells W) [] W vals hI ha).mono fun e W' h => ?_
  obtain ⟨v, I', σ', rfl, hI', _, hr⟩ := h
  cases hr
  exact ⟨rfl, hI'.below⟩
end Go.Proofs.YtgcbaefclkfnoaaDoor
end

/-! What all rows of this seat need: the world in which the library's two tables lie. -/
section
set_option linter.unusedVariables false
namespace Go.Proofs.YtgcbaefclkfnoaaDoor
open Go Go.AE Go.Proofs Go.RowKit Go.Lib Go.Shelf

def d32 : List Value := [0, 1, 28, 2, 29, 14, 24, 3, 30, 22, 20, 15, 25, 17, 4, 8, 31, 27, 13, 23, 21, 19, 16, 7, 26, 12, 18, 6, 11, 5, 10, 9].map fun z : Int => Value.int .u8 z
def d64 : List Value := [0, 1, 56, 2, 57, 49, 28, 3, 61, 58, 42, 50, 38, 29, 17, 4, 62, 47, 59, 36, 45, 43, 51, 22, 53, 39, 33, 30, 24, 18, 12, 5, 63, 55, 48, 27, 60, 41, 37, 16, 46, 35, 44, 21, 52, 32, 23, 11, 54, 26, 40, 15, 34, 20, 31, 10, 25, 14, 19, 9, 13, 8, 7, 6].map fun z : Int => Value.int .u8 z
def p10 : List Value := [1, 10, 100, 1000, 10000, 100000, 1000000, 10000000, 100000000, 1000000000, 10000000000, 100000000000, 1000000000000, 10000000000000, 100000000000000, 1000000000000000, 10000000000000000, 100000000000000000, 1000000000000000000, 10000000000000000000].map fun z : Int => Value.int .u64 z
noncomputable def laidWorld (os : Os) : World :=
  let w0 := World.holding Tryd.prog os ⟨#[], #[], []⟩
  let put (h : Array Obj) (g : Nat) (cs : Array Value) : Array Obj := h.modify g fun
    | .cells _ t frozen => .cells cs t frozen
    | o => o
  let h1 := put w0.heap (Tryd.lays196_ren.g 3) (Lib.firstTab.map fun z => Value.int .u8 z).toArray
  let h2 := put h1 (Tryd.lays196_ren.g 4) ((List.range 16).flatMap fun i => [Value.int .u8 (Lib.accLo i), Value.int .u8 (Lib.accHi i)]).toArray
  let h3 := put h2 4 d32.toArray
  let h4 := put h3 5 d64.toArray
  let h5 := put h4 3 p10.toArray
  { w0 with heap := h5 }
set_option maxRecDepth 1000000 in
theorem laid_met (os : Os) (args : Array Value) : laidMetH Tryd.prog Rows.termSizesRow.laid ((laidWorld os).forCall (fun _ _ => 0) ⟨#[], args, []⟩).memory :=
  (LaidIn.of_run (l := [("math/bits.deBruijn32tab", Rows.laid_math_bits_deBruijn32tab), ("math/bits.deBruijn64tab", Rows.laid_math_bits_deBruijn64tab), ("internal/strconv.uint64pow10", Rows.laid_internal_strconv_uint64pow10), ("unicode/utf8.acceptRanges", Rows.laid_unicode_utf8_acceptRanges), ("unicode/utf8.first", Rows.laid_unicode_utf8_first)]) [0, 1, 2, 3, 4, 5] 8 (by kernel_rfl) (by kernel_rfl) (by kernel_rfl) (by kernel_rfl)).met
def z64 : List Int := [0, 1, 56, 2, 57, 49, 28, 3, 61, 58, 42, 50, 38, 29, 17, 4, 62, 47, 59, 36, 45, 43, 51, 22, 53, 39, 33, 30, 24, 18, 12, 5, 63, 55, 48, 27, 60, 41, 37, 16, 46, 35, 44, 21, 52, 32, 23, 11, 54, 26, 40, 15, 34, 20, 31, 10, 25, 14, 19, 9, 13, 8, 7, 6]
theorem tz_of {W : World} (hL : laidMetH Tryd.prog Rows.termSizesRow.laid W) : W.cell? ⟨5, 15, none⟩ = some (.int .u8 4) ∧ 5 < W.heap.size := by
  obtain ⟨g, t, cs, fuel, p, hg, hty, hvar, hd⟩ := (Lib.laidMet.reads (l := Rows.termSizesRow.laid) hL (.tail _ (.head _)) : Lib.VarReads Tryd.prog W "math/bits.deBruijn64tab" Rows.laid_math_bits_deBruijn64tab)
  obtain rfl : g = 5 := Option.some.inj (hg.symm.trans (by kernel_rfl))
  obtain rfl : t = 122 := Option.some.inj (hty.symm.trans (by kernel_rfl))
  have hcs := Lib.cells_of_tab (zs := z64) Tryd.underlying122 Tryd.underlying5 (by kernel_rfl) (by kernel_rfl) hd
  have h1 := World.var?_cell hg hvar 15
  rw [← Array.getElem?_toList, hcs] at h1
  have h1 : W.cell? ⟨5, 15, none⟩ = some (.int .u8 4) := h1
  refine ⟨h1, ?_⟩
  unfold World.cell? at h1
  split at h1
  all_goals first
    | exact (Array.getElem?_eq_some_iff.1 ‹_›).1
    | cases h1
set_option maxRecDepth 1000000 in
theorem tabs_of {W : World} (hL : laidMetH Tryd.prog Rows.termSizesRow.laid W) : Lib.Utf8Tabs (Tryd.lays196_ren.g 3) (Tryd.lays196_ren.g 4) W ∧ (W.cell? ⟨5, 15, none⟩ = some (.int .u8 4) ∧ 5 < W.heap.size) :=
  ⟨utf8Tabs_of_readsT (U8Types.of196 Tryd.lays196) ⟨by kernel_rfl, by kernel_rfl, by kernel_rfl, by kernel_rfl, by kernel_rfl, by kernel_rfl, by kernel_rfl⟩ (Lib.laidMet.reads (l := Rows.termSizesRow.laid) hL (.tail _ (.tail _ (.tail _ (.tail _ (.head _)))))) (Lib.laidMet.reads (l := Rows.termSizesRow.laid) hL (.tail _ (.tail _ (.tail _ (.head _))))), tz_of hL⟩
end Go.Proofs.YtgcbaefclkfnoaaDoor
end

/-! The row and the card of TermApart, out of its plain law. -/
section
set_option linter.unusedVariables false
namespace Go.Proofs.YtgcbaefclkfnoaaDoor
open Go Go.AE Go.Proofs Go.ChangeShapes Go.WideShapes Go.ChangeAt Go.RowKit
open Go.ChangeMaps (open_string shut_string)
namespace termApart
theorem args {I : Cells} {W : World} {a0 a1 : AV} {v0 v1 : Value} (r0 : Rep I W [] a0 v0) (r1 : Rep I W [] a1 v1) : ArgsRep I W [] [a0, a1] #[v0, v1] := by
  refine ⟨rfl, fun i a h => ?_⟩
  match i, h with
  | 0, h => cases h; exact r0
  | 1, h => cases h; exact r1
def Plain : Prop := ∀ a0 a1 : AV, WT T 24 a0.cells → Q77 ti24.agg a0.cells = some a0 → WT T 24 a1.cells → Q77 ti24.agg a1.cells = some a1 →
  ∃ n, callN F n 4 [a0, a1] [] = some (.v (.bool true), [])

set_option maxRecDepth 100000 in
theorem lifted (plain : Plain) (os : Os) (started : os.Started) (H : Type) (enc : TypeId × Value → H) :
    ReturnsInHanded {} Tryd.checked os 4 .any (fun w args => (Rows.termApartSpec.pre enc Tryd.prog Tryd.f4 [] false w args ∧ laidMetH Tryd.prog Rows.termApartRow.laid w) ∧ sizedMet enc Tryd.prog Tryd.f4 (OpenSpec.ofChange Rows.termApartSpec) false w args)
      (Rows.termApartSpec.post enc Tryd.prog Tryd.f4 false true false false) := by
  refine returnsInHanded_of_change_and (C := Tryd.checked) (X := fun w _ => laidMetH Tryd.prog Rows.termApartRow.laid w) (fun _ _ _ hh h => h.of_heap hh) own started (by kernel_rfl) Tryd.func4
    (ChangeSpec.witness_at (enc := enc) (C := Tryd.checked) (os := os) (X := fun w _ => laidMetH Tryd.prog Rows.termApartRow.laid w) false (laidWorld os) #[ti24.zero, ti24.zero] 8 rfl (by kernel_rfl) (by kernel_rfl) (by kernel_rfl) (by kernel_rfl) (by kernel_rfl) (laid_met os _)) ?_
  intro W base args' ds gs before hval0 hW _ _ hL _
  have hval : ∀ (j : Nat) t v, Tryd.f4.params[j]? = some t → args'[j]? = some v → Value.okWide Tryd.prog W .any base t v := hval0
  have hW' := hW
  obtain ⟨p, q, hA0, hV, rfl, hfz, hnd⟩ := hW
  have hA : DataW.TrodAll enc Tryd.prog W 0 (fun _ => true) true Tryd.f4.params.toList args'.toList ds p := hA0
  rw [Tryd.params4] at hA hval
  obtain ⟨v0, vs0, d0, ds0, p0, q0, hargs, rfl, rfl, h0, r0⟩ := trodAll_cons hA
  obtain ⟨v1, vs1, d1, ds1, p1, q1, rfl, rfl, rfl, h1, r1⟩ := trodAll_cons r0
  obtain ⟨rfl, rfl, rfl⟩ := trodAll_nil r1
  obtain rfl : args' = #[v0, v1] := by cases args'; simp_all
  obtain ⟨rfl, rfl⟩ := trodVars_none hV
  obtain ⟨a0, w0, e0, x0⟩ := trod_arg hT hG (t := 24) (i := ti24) (by decide) rfl (hval 0 24 v0 rfl rfl) h0
  obtain ⟨a1, w1, e1, x1⟩ := trod_arg hT hG (t := 24) (i := ti24) (by decide) rfl (hval 1 24 v1 rfl rfl) h1
  have l0 : ∀ x ∈ p0, x.block < W.heap.size := by obtain ⟨m, hm⟩ := h0; exact DataW.trod_lt m _ _ _ hm
  have l1 : ∀ x ∈ p1, x.block < W.heap.size := by obtain ⟨m, hm⟩ := h1; exact DataW.trod_lt m _ _ _ hm
  obtain ⟨n, hn⟩ := plain a0 a1 w0 e0 w1 e1
  refine (law_calls ⟨rfl, tabs_of hL⟩ (args x0 x1) hn).mono fun e W' ⟨he, bel⟩ => ?_
  subst he
  exact ⟨_, rfl, _, _, _, [], _, [], hW', trodAll_mk1 (shut_bool Tryd.underlying4 _),
    (trodAll_cons_mk (Below.trod laidOut (by kernel_rfl) (of_decide_eq_true (by kernel_rfl)) h0 bel l0) (trodAll_cons_mk (Below.trod laidOut (by kernel_rfl) (of_decide_eq_true (by kernel_rfl)) h1 bel l1) trodAll_mk0)), rfl, bel.frame _, fun h => by cases h⟩
theorem over (plain : Plain) : Rows.termApartRow.holds Tryd.pinned (OpenSpec.ofChange Rows.termApartSpec) :=
  OpenClaim.holds_of_wide 4 Tryd.f4 rfl rfl rfl rfl rfl rfl rfl ⟨rfl, rfl, rfl, rfl, rfl⟩ rfl rfl rfl rfl rfl (by kernel_rfl) Tryd.func4 (by kernel_rfl)
    (of_decide_eq_true (by kernel_rfl)) (by unfold Func.isWrapper; first | (rw [if_pos (by decide +kernel)]; kernel_rfl) | (rw [if_neg (by decide +kernel)]; exact ⟨rfl, rfl⟩))
    (fun os started H enc _ => lifted plain os started H enc)
theorem proved (plain : Plain) : Rows.TermApartCardSaid :=
  Claim7.holds_tied_plain_at .later [] Rows.termApartCard.laidKinds true Rows.termApartCard.stood.harness Rows.termApartCard.stood.looks
    (over plain) (fun _ h => by cases h) (by kernel_rfl) (fun _ h => by cases h) termApart_row_tie rfl ⟨rfl, rfl⟩ (by kernel_rfl) rfl
    (fun f fn hf hfn => by
      obtain rfl : f = 4 := Option.some.inj ((show Tryd.prog.funcNamed Rows.termApartRow.func = some 4 by kernel_rfl).symm.trans hf) |>.symm
      obtain rfl : fn = Tryd.f4 := (Option.some.inj (Tryd.func4.symm.trans hfn)).symm
      refine ⟨by kernel_rfl, fun j t ht => ?_⟩
      rw [Tryd.params4] at ht
      match j, ht with
      | 0, ht => cases ht; exact (show Tryd.prog.wantsStandIn 24 = false by kernel_rfl)
      | 1, ht => cases ht; exact (show Tryd.prog.wantsStandIn 24 = false by kernel_rfl)
      | _ + 2, ht => simp at ht)
    (by kernel_rfl)
end termApart
end Go.Proofs.YtgcbaefclkfnoaaDoor
end
