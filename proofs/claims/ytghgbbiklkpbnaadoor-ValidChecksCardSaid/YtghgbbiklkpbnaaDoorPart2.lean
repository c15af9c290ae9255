/- Texts of this claim, put together. -/
import Derived.Test.YtghgbbiklkpbnaaDoorPart1
import Derived.Test.YtghgbbiklkpbnaaDoorEval3
set_option linter.unusedSimpArgs false
set_option linter.unusedVariables false
section
namespace Go.AE.YtghgbbiklkpbnaaDoor
open Go Go.AE Go.Proofs.YtghgbbiklkpbnaaDoor

def isB (t : Tm) (s : ByteArray) (n : Int) : Bool := (t.k == 4) && ((t.s.toList == s.toList) && ((t.l.length : Int) == n))
theorem isB_2 (t : Tm) (s : ByteArray) : isB t s 2 = is2 t s := by
 have e : ((t.l.length : Int) == 2) = decide (t.l.length = 2) := by
  by_cases h : t.l.length = 2
  ·simp [h]
  ·have : ¬ (t.l.length : Int) = 2 := by omega
   simp [h, this]
 have e2 : (t.k == 4) = decide (t.k = 4) := rfl
 rw [isB, is2, e, e2]
theorem is_ok {a : AV} {t : Tm} (ha : IsT a t) (s : ByteArray) (n : Int) : callW F 25 [a, .v (.string s), .v (.int .i64 n)] [] = some (.v (.bool (isB t s n)), []) := by
 refine callW_pure (c := c25) rfl rfl 0 ?_
 cases ha with
 | mk k s' m c l hc =>
 have q1 := fun h : List AO => hc.len h
 unfold isB
 simp only [Tm.k, Tm.s, Tm.l]
 generalize hA : (k == 4) = A
 generalize hB : (s'.toList == s.toList) = B
 generalize hC : ((l.length : Int) == n) = C
 cases A <;> cases B <;> cases C <;> simp only [c25, start, List.replicate, c25_0, c25_1, tbx, tb0, tb1, tb2, tb3, q1, hA, hB, hC, Q122, Bool.true_and, Bool.false_and, Bool.and_self, Q0, Q1, Q2, Q3, Q4, Q5, Q6, Q7, Q8, Q9, Q10, Q11, Q12, Q13, Q14, Q15, Q16, Q17, Q18, Q19, Q20, Q21, Q22, Q23, Q24, Q25, Q26, Q27, Q28, Q29, Q30, Q31, Q32, Q33, Q35, Q36, Q37, Q38, Q39, Q40, Q41, Q42, Q43, Q44, Q45, Q46, Q47, Q48, Q49, Q50, Q51, Q52, Q53, Q54, Q55, Q56, Q57, Q58, Q59, Q60, Q61, Q62, Q63, Q64, Q65, Q66, Q67, Q68, Q69, Q70, Q71, Q72, Q73, Q99, Q100, Q101, Q102, Q103, Q74, Q75, Q77, Q78, Q79, Q80, Q81, Q82, Q83, Q84, clr, List.length_nil, List.length_cons, List.getElem?_cons_zero, List.getElem?_cons_succ, Nat.reduceAdd, Nat.zero_add, Nat.add_zero, Nat.reduceLeDiff, Nat.reduceSub, ↓reduceIte, List.drop_succ_cons, List.drop_zero, List.take_succ_cons, List.take_zero, Bool.false_eq_true, List.nil_append, List.cons_append, Bool.not_true, Bool.not_false, cond_true, cond_false, bne, Q85, Q86, Q87, Q88, Q89, Q90, Q91, Q92, Q93, Q94, Q95, Q96, Q97, Q98, Q110, Q111, Q116, Q117, Q118, Q119, Q120, Q121, Q122, Q123, Option.map_some, Option.map_none]

end Go.AE.YtghgbbiklkpbnaaDoor
end

section
namespace Go.AE.YtghgbbiklkpbnaaDoor
open Go Go.AE Go.Proofs.YtghgbbiklkpbnaaDoor

inductive Bo (H : List AO) : AV → List AV → Prop
 | slc (es : List AV) (hne : es ≠ []) : Bo H (.slc 4 true true es) es
 | own (id ver : Nat) (es : List AV) (hr : H[id]? = some (.row 32 4 ver es 0)) (hne : es ≠ []) : Bo H (.own 4 id ver 0 es.length) es
section
variable {H : List AO} {r : AV} {es : List AV}
theorem Bo.app (h : Bo H r es) (l : List AO) : Bo (H ++ l) r es := by
 cases h with
 | slc es hne => exact .slc _ hne
 | own id ver es hr hne => exact .own id ver _ (his_get hr) hne
theorem Bo.elems (h : Bo H r es) : elemsOf H 4 r = some es := by
 cases h with
 | slc es hne => rfl
 | own id ver es hr hne => simp [elemsOf, rowAt, hr]
theorem Bo.len (h : Bo H r es) (H' : List AO) : evLen H' .slice r = some es.length := by
 cases h <;> rfl
theorem Bo.at (h : Bo H r es) {i : Nat} {e : AV} (he : es[i]? = some e) (hE : El true 4 e) : ∃ p, iaV H 4 r (some i) = some p ∧ Q76 H true 4 p = some e := by
 cases h with
 | slc es hne => exact ⟨_, iaV_slc he, hE.ld H⟩
 | own id ver es hr hne => exact ⟨_, row_ia hr (Nat.le_refl _) (List.getElem?_eq_some_iff.1 he).1, row_ld hr he hE⟩
theorem Bo.lvf (h : Bo H r es) : ∃ c, c.frz0 0 H = some c ∧ r.frz0 0 H = some c ∧ Sl 4 c es := by
 cases h with
 | slc es hne => exact ⟨_, rfl, rfl, .slc _ _ _⟩
 | own id ver es hr hne => exact ⟨.slc 4 false false es, rfl, by simp [AV.frz0, rowAt, hr], .slc _ _ _⟩
theorem ok_sh0 (n : Nat) (x : AV) : (x.sh0 n).ok0 = x.ok0 := by cases x <;> rfl
theorem ok_sh1 (n : Nat) (x : AV) : (x.sh1 n).ok1 = x.ok1 := by
 cases x with
 | agg cs => simp only [AV.sh1, AV.ok1, List.all_map]; congr 1; funext y; exact ok_sh0 n y
 | fn f a b =>
  simp only [AV.sh1, AV.ok1, List.all_map]
  have : (AV.ok0 ∘ AV.sh0 n) = AV.ok0 := by funext y; exact ok_sh0 n y
  rw [this]
 | _ => rfl
theorem ok_sh (n : Nat) (o : AO) : (o.sh n).ok = o.ok := by
 cases o with
 | box t cs => simp only [AO.sh, AO.ok, List.all_map]; congr 1; funext y; exact ok_sh1 n y
 | _ => rfl
theorem ok_all (n : Nat) {k : List AO} (h : k.all AO.ok = true) : (k.map (AO.sh n)).all AO.ok = true := by
 rw [List.all_map]
 have : (AO.ok ∘ AO.sh n) = AO.ok := by funext y; exact ok_sh n y
 rw [this]; exact h
theorem ok_term {a : AV} {t : Tm} (ha : IsT a t) (bt : TypeId) : AO.ok (.box bt a.cells) = true := by
 cases ha with
 | mk k s n c l hc => cases hc <;> rfl
theorem Bo.add {r' : AV} {es' : List AV} (h : Bo H r es) (h' : Bo H r' es') (hf : es.length + es'.length ≤ 1000000) (hok : H.all AO.ok = true) :
  ∃ r2 H2, evAppend H 32 4 56 r r' = some (r2, H2) ∧ Bo H2 r2 (es ++ es') ∧ H2.all AO.ok = true ∧ r2.ok2 = true := by
 have he' := h'.elems
 have hne' : es' ≠ [] := by cases h' <;> assumption
 have fit : fits (es.length + es'.length) 56 = true := fits_small hf (by omega)
 cases h with
 | slc es hne =>
  refine ⟨.own 4 H.length 0 0 (es.length + es'.length), H ++ [.row 32 4 0 (es ++ es') 0], ?_, ?_, ?_, rfl⟩
  ·simp [evAppend, he', evAppendL, hne', fit]
  ·have := Bo.own (H := H ++ [.row 32 4 0 (es ++ es') 0]) H.length 0 (es ++ es') (by simp) (by simp [hne])
   rwa [List.length_append] at this
  ·rw [List.all_append, hok]; rfl
 | own id ver es hr hne =>
  have hlt := (List.getElem?_eq_some_iff.1 hr).1
  have ht : rowT H id = 32 := by simp only [rowT, hr]
  refine ⟨.own 4 id (ver + 1) 0 (es.length + es'.length), H.set id (.row 32 4 (ver + 1) (es ++ es') 0), ?_, ?_, ?_, rfl⟩
  ·simp [evAppend, he', evAppendL, rowAt, hr, ht, hne', fit]
  ·have := Bo.own (H := H.set id (.row 32 4 (ver + 1) (es ++ es') 0)) id (ver + 1) (es ++ es') (by simp [hlt]) (by simp [hne])
   rwa [List.length_append] at this
  ·rw [List.all_eq_true] at hok ⊢
   intro o ho
   rcases List.mem_or_eq_of_mem_set ho with h | rfl
   ·exact hok o h
   ·rfl
end
theorem All2.app' : ∀ {es es' : List AV} {l l' : List Tm}, All2 es l → All2 es' l' → All2 (es ++ es') (l ++ l')
 | _, _, _, _, .nil, h => h
 | _, _, _, _, .cons a t es ts h hs, h' => .cons a t _ _ h (All2.app' hs h')
mutual
theorem bod_len : ∀ t : Tm, (bodT t).length ≤ zT t
 | .mk k s n l => by
  have := bodL_len l
  rw [bodT, zT]
  split
  ·omega
  ·simp
theorem bodL_len : ∀ l : List Tm, (bodL l).length ≤ zL l
 | [] => by simp [bodL, zL]
 | t :: l => by
  have := bod_len t
  have := bodL_len l
  rw [bodL, zL, List.length_append]; omega
end
theorem leave_k1 {c : CFun} {vars : List AV} {H : List AO} {i : Nat} (hc : c.res = [.var i]) : leaveKeep c (some (.ret, vars, H)) = some (vars.getD i .junk, H) := by
 simp only [leaveKeep, hc, List.mapM_cons, List.mapM_nil, resOf, Option.pure_def, Option.bind_eq_bind, Option.bind_some, Option.map_some, pack]
theorem body_ok : ∀ (N : Nat) (t : Tm) (a : AV), SizeOf.sizeOf t < N → zT t ≤ 450000 → IsT a t → ∀ h : List AO, ∃ r X es, callW F 42 [a] h = some (r, h ++ X) ∧ X.all AO.ok = true ∧ Bo (h ++ X) r es ∧ All2 es (bodT t) := by
 intro N
 induction N with
 | zero => intro t a h; omega
 | succ N ih =>
  intro t a hN hz ha
  have key : ∃ r k es, leaveKeep c42 (exec (callW F) 0 c42.body (start c42 [a]) []) = some (r, k) ∧ r.ok2 = true ∧ k.all AO.ok = true ∧ Bo k r es ∧ All2 es (bodT t) := by
   have hf := ha.facts
   have hi := is_ok ha comma 2
   rw [isB_2] at hi
   have e1 : Q76 [.box 32 a.cells] true 4 (.ptr 0 0) = some a := hf.2.2.2.1 [] 32
   have bxa : bx [] 32 (some a.cells) = some (.ptr 0 0, [.box 32 a.cells]) := rfl
   cases h2 : is2 t comma with
   | false =>
    rw [h2] at hi
    have b1 : ∀ h : List AO, bs1 h 4 (some a) = some (.slc 4 true true [a], h) := fun h => bs1_some ha.cl.1 ha.cl.2
    have hb : bodT t = [t] := by
     cases t with | mk k s n l =>
     rw [bodT, if_neg]
     rintro ⟨p1, p2, p3⟩
     have := (is2_iff (t := .mk k s n l) (s := comma)).2 ⟨p1, p2, p3⟩
     rw [this] at h2; cases h2
    refine ⟨.slc 4 true true [a], [.box 32 a.cells], [a], ?_, rfl, by simp [ok_term ha], .slc _ (by simp), by rw [hb]; exact .cons a t [] [] ha .nil⟩
    have body : exec (callW F) 0 c42.body (start c42 [a]) [] = some (.ret, [a, .ptr 0 0, .slc 4 true true [a], .v (.bool false)], [.box 32 a.cells]) := by
     simp only [c42, start, List.replicate, c42_0, c42_1, c42_3, bxa, e1, hf, hi, snap_str, snap_int, b1, Q104, comma, Q0, Q1, Q2, Q3, Q4, Q5, Q6, Q7, Q8, Q9, Q10, Q11, Q12, Q13, Q14, Q15, Q16, Q17, Q18, Q19, Q20, Q21, Q22, Q23, Q24, Q25, Q26, Q27, Q28, Q29, Q30, Q31, Q32, Q33, Q35, Q36, Q37, Q38, Q39, Q40, Q41, Q42, Q43, Q44, Q45, Q46, Q47, Q48, Q49, Q50, Q51, Q52, Q53, Q54, Q55, Q56, Q57, Q58, Q59, Q60, Q61, Q62, Q63, Q64, Q65, Q66, Q67, Q68, Q69, Q70, Q71, Q72, Q73, Q99, Q100, Q101, Q102, Q103, Q74, Q75, Q77, Q78, Q79, Q80, Q81, Q82, Q83, Q84, clr, List.length_nil, List.length_cons, List.getElem?_cons_zero, List.getElem?_cons_succ, Nat.reduceAdd, Nat.zero_add, Nat.add_zero, Nat.reduceLeDiff, Nat.reduceSub, ↓reduceIte, List.drop_succ_cons, List.drop_zero, List.take_succ_cons, List.take_zero, Bool.false_eq_true, List.nil_append, List.cons_append, Bool.not_true, Bool.not_false, cond_true, cond_false, bne, Q85, Q86, Q87, Q88, Q89, Q90, Q91, Q92, Q93, Q94, Q95, Q96, Q97, Q98, Q110, Q111, Q116, Q117, Q118, Q119, Q120, Q121, Q122, Q123, Option.map_some, Option.map_none, Q34] at hi ⊢
    rw [body]
    exact leave_k1 (c := c42) (i := 2) rfl
   | true =>
    rw [h2] at hi
    obtain ⟨hk, hs, hl⟩ := is2_iff.1 h2
    cases t with | mk k s n l =>
    simp only [Tm.k, Tm.s, Tm.l] at hk hs hl
    cases ha with
    | mk k s n c l hc =>
    obtain ⟨es, hs', hes, hm⟩ := hc.sl
    have hll := hes.length
    match l, es, hl, hes, hll with
    | [x, y], [ex, ey], _, hes, hll =>
    have hx := hes.at (i := 0) (by simp) (by simp)
    have hy := hes.at (i := 1) (by simp) (by simp)
    simp only [List.getElem_cons_zero, List.getElem_cons_succ] at hx hy
    have sx := Tm.mk.sizeOf_spec k s n [x, y]
    simp only [List.cons.sizeOf_spec, List.nil.sizeOf_spec] at sx
    simp only [zT, zL] at hz
    obtain ⟨r1, X1, es1, g1, o1, B1, A1⟩ := ih x ex (by omega) (by omega) hx [.box 32 [.v (.int .i64 k), .v (.string s), .v (.int .i64 n), c]]
    obtain ⟨r2, X2, es2, g2, o2, B2, A2⟩ := ih y ey (by omega) (by omega) hy ([.box 32 [.v (.int .i64 k), .v (.string s), .v (.int .i64 n), c]] ++ X1)
    have l1 := bod_len x
    have l2 := bod_len y
    have n1 := A1.length
    have n2 := A2.length
    have okH : (([.box 32 [.v (.int .i64 k), .v (.string s), .v (.int .i64 n), c]] ++ X1) ++ X2 : List AO).all AO.ok = true := by
     have := ok_term (.mk k s n c [x, y] hc) 32
     simp only [AV.cells] at this
     simp [List.all_append, o1, o2, this]
    obtain ⟨r3, H3, g3, B3, o3, q3⟩ := (B1.app X2).add B2 (by omega) okH
    have hb : bodT (.mk k s n [x, y]) = bodT x ++ bodT y := by
     rw [bodT, if_pos ⟨hk, hs, rfl⟩, bodL, bodL, bodL, List.append_nil]
    refine ⟨r3, H3, es1 ++ es2, ?_, q3, o3, B3, by rw [hb]; exact All2.app' A1 A2⟩
    have fx := hx.facts
    have fy := hy.facts
    have i0 := fun H : List AO => hs'.ia (i := 0) rfl H
    have i1 := fun H : List AO => hs'.ia (i := 1) rfl H
    have ld3 : ∀ X : List AO, Q76 ([.box 32 [.v (.int .i64 k), .v (.string s), .v (.int .i64 n), c]] ++ X) false 1 (.ptr 0 3) = some c := fun _ => rfl
    have n0 : natV (.v (.int .i64 0)) = some 0 := rfl
    have n1 : natV (.v (.int .i64 1)) = some 1 := rfl
    have ld30 := ld3 []
    rw [List.append_nil] at ld30
    have body : exec (callW F) 0 c42.body (start c42 [.agg [.v (.int .i64 k), .v (.string s), .v (.int .i64 n), c]]) [] = some (.ret, [.agg [.v (.int .i64 k), .v (.string s), .v (.int .i64 n), c], .ptr 0 0, r3, .v (.bool true)], H3) := by
     simp only [AV.cells] at bxa e1 hf
     simp only [comma] at hi
     generalize hG : [AO.box 32 [.v (.int .i64 k), .v (.string s), .v (.int .i64 n), c]] = G at *
     simp only [c42, start, List.replicate, c42_0, c42_1, c42_2, bxa, e1, hf, hi, snap_str, snap_int, ld3, ld30, i0, i1, n0, n1, fx, fy, e_callh, List.map_cons, List.map_nil, g1, g2, e_append, g3, Q0, Q1, Q2, Q3, Q4, Q5, Q6, Q7, Q8, Q9, Q10, Q11, Q12, Q13, Q14, Q15, Q16, Q17, Q18, Q19, Q20, Q21, Q22, Q23, Q24, Q25, Q26, Q27, Q28, Q29, Q30, Q31, Q32, Q33, Q35, Q36, Q37, Q38, Q39, Q40, Q41, Q42, Q43, Q44, Q45, Q46, Q47, Q48, Q49, Q50, Q51, Q52, Q53, Q54, Q55, Q56, Q57, Q58, Q59, Q60, Q61, Q62, Q63, Q64, Q65, Q66, Q67, Q68, Q69, Q70, Q71, Q72, Q73, Q99, Q100, Q101, Q102, Q103, Q74, Q75, Q77, Q78, Q79, Q80, Q81, Q82, Q83, Q84, clr, List.length_nil, List.length_cons, List.getElem?_cons_zero, List.getElem?_cons_succ, Nat.reduceAdd, Nat.zero_add, Nat.add_zero, Nat.reduceLeDiff, Nat.reduceSub, ↓reduceIte, List.drop_succ_cons, List.drop_zero, List.take_succ_cons, List.take_zero, Bool.false_eq_true, List.nil_append, List.cons_append, Bool.not_true, Bool.not_false, cond_true, cond_false, bne, Q85, Q86, Q87, Q88, Q89, Q90, Q91, Q92, Q93, Q94, Q95, Q96, Q97, Q98, Q110, Q111, Q116, Q117, Q118, Q119, Q120, Q121, Q122, Q123, Option.map_some, Option.map_none, Q34]
    rw [body]
    exact leave_k1 (c := c42) (i := 2) rfl
  obtain ⟨r, k, es, g1, g2, g3, g4, g5⟩ := key
  intro h
  have sn : [a].mapM (AV.snap1 h) = some [a] := by simp [ha.snap]
  have q := callW_pk (F := F) (h := h) (c := c42) (f := 42) rfl sn rfl 0 g1 g2 g3
  refine ⟨_, _, es, q, ok_all _ g3, ?_, g5⟩
  cases g4 with
  | slc es hne => exact .slc es hne
  | own id ver es hr hne =>
   refine .own (h.length + id) ver es ?_ hne
   rw [List.getElem?_append_right (by omega), Nat.add_sub_cancel_left, List.getElem?_map, hr]
   rfl
end Go.AE.YtghgbbiklkpbnaaDoor
end

section
namespace Go.AE.YtghgbbiklkpbnaaDoor
open Go Go.AE Go.Proofs.YtghgbbiklkpbnaaDoor

def zero6 : List AV := [.v (.int .i64 0), .v (.string ⟨#[]⟩), .v (.int .i64 0), .v (.slice none 0 0), .v (.slice none 0 0), .v (.int .i64 0)]
def Six (a : AV) : Prop := a.cl = some a.cells ∧ a.cells.length = 6
end Go.AE.YtghgbbiklkpbnaaDoor
end

section
namespace Go.AE.YtghgbbiklkpbnaaDoor
open Go Go.AE Go.Proofs.YtghgbbiklkpbnaaDoor

def regs (ks : List Nat) (n : Nat) : List AV := (ks.map fun k : Nat => iv k) ++ List.replicate (n - ks.length) (iv 0)
theorem el_iv (n : Int) : El false 1 (iv n) := El.int n
def loc (tc : List AV) (ks : List Nat) (n : Nat) (tl : List AO) : List AO := .box 32 tc :: .row 3 1 0 (regs ks n) 0 :: tl
section
variable {H : List AO} {tc : List AV} {ks : List Nat} {n B : Nat} {tl : List AO}
end
end Go.AE.YtghgbbiklkpbnaaDoor
end

section
namespace Go.AE.YtghgbbiklkpbnaaDoor
open Go Go.AE Go.Proofs.YtghgbbiklkpbnaaDoor

end Go.AE.YtghgbbiklkpbnaaDoor
end

section
namespace Go.AE.YtghgbbiklkpbnaaDoor
open Go Go.AE Go.Proofs.YtghgbbiklkpbnaaDoor

def Gb (B : Nat) (ix : List Nat) (h h' : List AO) : Prop := h.length ≤ h'.length ∧ ∀ j, j < B → j ∉ ix → h'[j]? = h[j]?
theorem Gb.refl {B : Nat} {ix : List Nat} (h : List AO) : Gb B ix h h := ⟨Nat.le_refl _, fun _ _ _ => rfl⟩
theorem Gb.trans {B : Nat} {ix : List Nat} {h h' h'' : List AO} (a : Gb B ix h h') (b : Gb B ix h' h'') : Gb B ix h h'' := ⟨Nat.le_trans a.1 b.1, fun j h1 h2 => (b.2 j h1 h2).trans (a.2 j h1 h2)⟩
theorem Rs.gb {B : Nat} {ix : List Nat} {h h' : List AO} (a : Rs ix h h') : Gb B ix h h' := ⟨Nat.le_of_eq a.1.symm, fun j _ h2 => a.2 j h2⟩
theorem Gb.app {B : Nat} {ix : List Nat} {h : List AO} (hB : B ≤ h.length) (l : List AO) : Gb B ix h (h ++ l) := ⟨by simp, fun j h1 _ => List.getElem?_append_left (by omega)⟩

def Wt (e : AV) (p : Nat × Tm) : Prop := ∃ a, IsT a p.2 ∧ e = .agg (.v (.int .i64 (p.1 : Int)) :: a.cells)
theorem Wt.elm {e : AV} {p : Nat × Tm} (h : Wt e p) : El true 5 e := by
 obtain ⟨r, t⟩ := p
 obtain ⟨a, ha, rfl⟩ := h
 simp only at ha
 cases ha with
 | mk k s n c l hc => cases hc <;> exact ⟨rfl, rfl, fun _ => rfl, rfl, rfl, rfl⟩
inductive Qr (rt : TypeId) (H : List AO) (B : Nat) : AV → List AV → Prop
 | nil : Qr rt H B (.v (.slice none 0 0)) []
 | slc (es : List AV) : Qr rt H B (.slc 5 true true es) es
 | own (id ver off : Nat) (L es : List AV) (hr : H[id]? = some (.row rt 5 ver L 0)) (hd : L.drop off = es) (ho : off + es.length = L.length) (hB : B ≤ id) : Qr rt H B (.own 5 id ver off es.length) es
section
variable {rt : TypeId} {H : List AO} {B b rl m : Nat} {code : List Op5} {g : Sg} {Q Qz0 : AV} {es : List AV}
theorem Qr.of {H' : List AO} (q : Qr rt H B Q es) (h : ∀ id, B ≤ id → (∃ ver L, H[id]? = some (.row rt 5 ver L 0)) → H'[id]? = H[id]?) : Qr rt H' B Q es := by
 cases q with
 | nil => exact .nil
 | slc es => exact .slc es
 | own id ver off L es hr hd ho hB => exact .own id ver off L _ ((h id hB ⟨_, _, hr⟩).trans hr) hd ho hB
theorem Qr.app (q : Qr rt H B Q es) (l : List AO) : Qr rt (H ++ l) B Q es := q.of fun id _ ⟨ver, L, h⟩ => (his_get h).trans h.symm
theorem Qr.len (q : Qr rt H B Q es) (H' : List AO) : evLen H' .slice Q = some es.length := by cases q <;> rfl
theorem Qr.cl (q : Qr rt H B Q es) : Q.cl = some [Q] := by cases q <;> rfl
theorem Qr.bel (q : Qr rt H B Q es) : Q.below1 H.length = true := by
 cases q with
 | nil => rfl
 | slc es => rfl
 | own id ver off L es hr hd ho hB => simp [AV.below1, AV.below0, (List.getElem?_eq_some_iff.1 hr).1]
theorem Qr.head {e : AV} {p : Nat × Tm} (q : Qr rt H B Q (e :: es)) (hw : Wt e p) : ∃ x, iaV H 5 Q (some 0) = some x ∧ Q76 H true 5 x = some e := by
 generalize hE : e :: es = E at q
 cases q with
 | nil => cases hE
 | slc es' =>
  refine ⟨_, iaV_slc (i := 0) (el := e) (by rw [← hE]; rfl), hw.elm.ld H⟩
 | own id ver off L es' hr hd ho hB =>
  have hl : L[off]? = some e := by
   have : (L.drop off)[0]? = some e := by rw [hd, ← hE]; rfl
   simpa using this
  have hE1 : E.length = es.length + 1 := by rw [← hE]; rfl
  refine ⟨.ep 5 id ver off 0, ?_, ?_⟩
  ·simp only [iaV, hE1, Nat.succ_pos, and_self, if_true, Nat.add_zero]
   rw [row_at hr (by omega)]; rfl
  ·exact row_ld hr hl hw.elm
theorem Qr.tail {e : AV} (q : Qr rt H B Q (e :: es)) : ∃ Q', slV H 5 (some (some 1)) none Q = some Q' ∧ Qr rt H B Q' es := by
 generalize hE : e :: es = E at q
 cases q with
 | nil => cases hE
 | slc es' =>
  refine ⟨.slc 5 true true es, ?_, .slc es⟩
  subst hE
  simp [slV, slo]
 | own id ver off L es' hr hd ho hB =>
  have hE1 : E.length = es.length + 1 := by rw [← hE]; rfl
  refine ⟨.own 5 id ver (off + 1) es.length, ?_, .own id ver (off + 1) L es hr ?_ (by omega) hB⟩
  ·simp [slV, slo, hE1]
  ·have := congrArg List.tail hd
   rw [← hE] at this
   simpa [List.tail_drop] using this
theorem Cp.keep {H' : List AO} (c : Cp H b rl m code g Qz0) (hl : H.length ≤ H'.length) (hb : H'.all (AO.below H'.length) = true) (h : ∀ j : Nat, (∃ o : AO, H[j]? = some o ∧ ∀ ver L, o ≠ AO.row 130 5 ver L 0) → H'[j]? = H[j]?) : Cp H' b rl m code g Qz0 := by
 obtain ⟨ver, h1, h2⟩ := c.ob.ex
 obtain ⟨x, hx⟩ := c.mp
 exact ⟨⟨ver, (h b ⟨_, h1, by simp⟩).trans h1, (h rl ⟨_, h2, by simp⟩).trans h2⟩, ⟨x, (h m ⟨_, hx, by simp⟩).trans hx⟩, hb⟩
theorem Qr.rs {H' : List AO} (q : Qr 130 H B Q es) (c : Cp H b rl m code g Qz0) (rs : Rs [b, rl, m] H H') : Qr 130 H' B Q es := by
 refine q.of fun id hB ⟨ver, L, h⟩ => rs.2 id ?_
 obtain ⟨v, h1, h2⟩ := c.ob.ex
 obtain ⟨x, hx⟩ := c.mp
 simp only [List.mem_cons, List.not_mem_nil, or_false]
 rintro (rfl | rfl | rfl)
 ·rw [h1] at h; cases h
 ·rw [h2] at h; cases h
 ·rw [hx] at h; cases h
theorem Rs.box {H' : List AO} {e : List AV} (c : Cp H b rl m code g Qz0) (rs : Rs [b, rl, m] (H ++ [.box 32 e]) H') : H'[H.length]? = some (.box 32 e) := by
 have := c.ob.ltb
 have := c.ob.ltr
 have := c.mb.2.2
 rw [rs.2 H.length (by simp; omega)]; simp
end
end Go.AE.YtghgbbiklkpbnaaDoor
end

section
namespace Go.AE.YtghgbbiklkpbnaaDoor
open Go Go.AE Go.Proofs.YtghgbbiklkpbnaaDoor

theorem callW_keep {f : FuncId} {c : CFun} {h : List AO} (hf : F f = some (.keep c)) {args : List AV} {r : AV × List AO} (hl : args.length = c.np) (k : Nat) (he : leaveKeep c (exec (callW F) k c.body (start c args) h) = some r) : callW F f args h = some r := by
 rw [callW_iff]
 cases hx : exec (callW F) k c.body (start c args) h with
 | none => rw [hx] at he; cases he
 | some q =>
  obtain ⟨n, hn⟩ := lim_exec _ _ _ _ hx
  refine ⟨max n k + 1, ?_⟩
  simp only [callN, hf, if_pos hl]
  rw [exec_mono (callN_mono F _ _ (Nat.le_max_left n k)) (Nat.le_max_right n k) _ _ _ _ hn]
  rw [hx] at he
  exact he
theorem leave_k0 {c : CFun} {vars : List AV} {H : List AO} {x : AXit} (hx : x = .ret ∨ x = .normal) (hc : c.res = []) : leaveKeep c (some (x, vars, H)) = some (.tup [], H) := by
 rcases hx with rfl | rfl <;> simp only [leaveKeep, hc, List.mapM_nil, Option.pure_def, Option.map_some, pack]
theorem Cp.obj {H H' : List AO} {o : AO} {b rl m : Nat} {code : List Op5} {g : Sg} {Qz0 : AV} (c : Cp H b rl m code g Qz0) (rs : Rs [b, rl, m] (H ++ [o]) H') : H'[H.length]? = some o := by
 have := c.ob.ltb
 have := c.ob.ltr
 have := c.mb.2.2
 rw [rs.2 H.length (by simp; omega)]; simp
end Go.AE.YtghgbbiklkpbnaaDoor
end

section
namespace Go.AE.YtghgbbiklkpbnaaDoor
open Go Go.AE Go.Proofs.YtghgbbiklkpbnaaDoor

end Go.AE.YtghgbbiklkpbnaaDoor
end

section
namespace Go.AE.YtghgbbiklkpbnaaDoor
open Go Go.AE Go.Proofs.YtghgbbiklkpbnaaDoor

def hH (cc : List AV) : List AO := [.box 35 cc, .box 24 [.v (.string ⟨#[]⟩), .v (.int .i64 0), .v (.int .i64 0), .v (.slice none 0 0)], .map (.int .i64) 0 [], .box 92 [.own 5 4 0 0 0, .mp 2, .v (.int .i64 16), .v (.slice none 0 0)], .row 41 5 0 [] 0]
theorem z4 : (ofVal (.agg #[(.string ⟨#[]⟩), (.int .i64 0), (.int .i64 0), (.slice none 0 0)])).cl = some [.v (.string ⟨#[]⟩), .v (.int .i64 0), .v (.int .i64 0), .v (.slice none 0 0)] := by simp [ofVal, AV.cl, Value.oneCell']
end Go.AE.YtghgbbiklkpbnaaDoor
end

section
namespace Go.AE.YtghgbbiklkpbnaaDoor
open Go Go.AE Go.Proofs.YtghgbbiklkpbnaaDoor

structure Dp (h : List AO) (b rl m : Nat) (code : List Op5) (g : Sg) : Prop where
 ex : ∃ v2 kk, Ob h b rl 68 (.own 1 m v2 0 g.met.length) [] code g.next ∧ h[m]? = some (.row 2 1 v2 (g.met.map iv) kk) ∧ kk ≤ g.met.length
 bel : h.all (AO.below h.length) = true
section
variable {h : List AO} {b rl m : Nat} {code : List Op5} {g : Sg}
theorem Dp.mb (c : Dp h b rl m code g) : b < h.length ∧ rl < h.length ∧ m < h.length ∧ m ≠ b ∧ m ≠ rl ∧ b ≠ rl := by
 obtain ⟨v2, kk, ob, hm, hk⟩ := c.ex
 obtain ⟨ver, h1, h2⟩ := ob.ex
 refine ⟨ob.ltb, ob.ltr, (List.getElem?_eq_some_iff.1 hm).1, ?_, ?_, ob.ne⟩
 ·rintro rfl; rw [h1] at hm; cases hm
 ·rintro rfl; rw [h2] at hm; cases hm
theorem Dp.nin (c : Dp h b rl m code g) {j : Nat} (hj : h.length ≤ j) : j ∉ [b, rl, m] := by
 have := c.mb
 simp; omega
theorem Dp.app (c : Dp h b rl m code g) {l : List AO} (hl : l.all (AO.below (h ++ l).length) = true) : Dp (h ++ l) b rl m code g := by
 obtain ⟨v2, kk, ob, hm, hk⟩ := c.ex
 refine ⟨⟨v2, kk, ob.app l, his_get hm, hk⟩, ?_⟩
 rw [List.all_append, Bool.and_eq_true]
 exact ⟨all_below_mono (by simp) c.bel, hl⟩
theorem Dp.of {h' : List AO} (c : Dp h b rl m code g) (e : ∀ j ∈ [b, rl, m], h'[j]? = h[j]?) (hb : h'.all (AO.below h'.length) = true) : Dp h' b rl m code g := by
 obtain ⟨v2, kk, ob, hm, hk⟩ := c.ex
 exact ⟨⟨v2, kk, ob.of (e b (by simp)) (e rl (by simp)), (e m (by simp)).trans hm, hk⟩, hb⟩
theorem Dp.part {l h2 : List AO} {code' : List Op5} {g' : Sg} (cp1 : Dp h b rl m code g) (cp2 : Dp h2 b rl m code' g') (rs : Rs [b, rl, m] (h ++ l) h2) :
  ∃ h3, h2 = h3 ++ l ∧ Dp h3 b rl m code' g' ∧ Rs [b, rl, m] h h3 := by
 obtain ⟨hlb, hlr, hlt, _⟩ := cp1.mb
 have hsz : h2.length = h.length + l.length := by rw [rs.1]; simp
 have hdrop : h2.drop h.length = l := by
  apply List.ext_getElem?
  intro j
  rw [List.getElem?_drop]
  have hj : h.length + j ∉ [b, rl, m] := by simp; omega
  rw [rs.2 _ hj, List.getElem?_append_right (by omega), Nat.add_sub_cancel_left]
 have get : ∀ j, j < h.length → (h2.take h.length)[j]? = h2[j]? := fun j hj => by rw [List.getElem?_take_of_lt hj]
 have hl : (h2.take h.length).length = h.length := by simp [hsz]
 have rs3 : Rs [b, rl, m] h (h2.take h.length) := by
  refine ⟨hl, fun j hj => ?_⟩
  by_cases hjl : j < h.length
  ·rw [get j hjl, rs.2 j hj, List.getElem?_append_left hjl]
  ·rw [List.getElem?_eq_none (by omega), List.getElem?_eq_none (by omega)]
 refine ⟨h2.take h.length, by rw [← hdrop, List.take_append_drop], cp2.of ?_ ?_, rs3⟩
 ·intro j hj
  refine get j ?_
  simp only [List.mem_cons, List.not_mem_nil, or_false] at hj
  rcases hj with rfl | rfl | rfl <;> assumption
 ·refine rs3.below cp1.bel fun j hj o ho => ?_
  obtain ⟨v2, kk, ob, hm, hk⟩ := cp2.ex
  obtain ⟨ver, e1, e2⟩ := ob.ex
  simp only [List.mem_cons, List.not_mem_nil, or_false] at hj
  rcases hj with rfl | rfl | rfl
  ·rw [(get j hlb).trans e1] at ho; cases ho
   simp [AO.below, AV.below1, AV.below0, hl, hlr, hlt]
  ·rw [(get j hlr).trans e2] at ho; cases ho; rfl
  ·rw [(get j hlt).trans hm] at ho; cases ho; rfl
theorem Dp.has (c : Dp h b rl m code g) (hm : g.met.length ≤ 1000000) (n : Int) (l : List AO) :
  ∃ M h', (∀ l : List AO, Q76 (h ++ l) false 1 (.ptr b 1) = some M) ∧ cf (callW F) 39 (h ++ l) [M, .v (.int .i64 n)] = some (.v (.bool (g.met.contains n)), h' ++ l) ∧ Dp h' b rl m code g ∧ Rs [b, rl, m] h h' ∧ (∀ l : List AO, Q76 (h' ++ l) false 1 (.ptr b 1) = some M) := by
 obtain ⟨hlb, hlr, hlt, n1, n2, n3⟩ := c.mb
 have hc := c
 obtain ⟨v2, kk, ob, hr, hk⟩ := c.ex
 obtain ⟨ver, h1, h2⟩ := ob.ex
 have hra : ∀ l, rowAt (h ++ l) 1 m v2 (0 + g.met.length) = some (g.met.map iv, kk) := fun l => row_at (his_get hr) (by simp)
 have hrt : ∀ l, rowT (h ++ l) m = 2 := fun l => by simp only [rowT, his_get hr]
 have hrs : Rs [b, rl, m] h (h.set m (.row 2 1 v2 (g.met.map iv) (max kk (0 + g.met.length)))) := Rs.set (by simp)
 have hmm : (h.set m (.row 2 1 v2 (g.met.map iv) (max kk (0 + g.met.length))))[m]? = some (.row 2 1 v2 (g.met.map iv) (max kk (0 + g.met.length))) := by simp [hlt]
 have hbb : (h.set m (.row 2 1 v2 (g.met.map iv) (max kk (0 + g.met.length))))[b]? = some (.box 68 [.own 5 rl ver 0 code.length, .own 1 m v2 0 g.met.length, .v (.int .i64 g.next)]) := by
  rw [List.getElem?_set_ne n1]; exact h1
 refine ⟨.own 1 m v2 0 g.met.length, h.set m (.row 2 1 v2 (g.met.map iv) (max kk (0 + g.met.length))), fun l => by rw [bx_ld (his_get h1)]; simp [Q77], ?_, ⟨⟨v2, _, ob.of (List.getElem?_set_ne n1) (List.getElem?_set_ne n2), hmm, by omega⟩, ?_⟩, hrs, fun l => by rw [bx_ld (his_get hbb)]; simp [Q77]⟩
 ·refine cf_of (vs := [.slc 1 false false (g.met.map iv), .v (.int .i64 n)]) ?_ ?_ (has_ok (.slc false false _) hm n)
  ·simp only [List.foldl_cons, List.foldl_nil, raise1, raise0, raise, hra l, hrt l]
   rw [set_app hlt]
  ·have : AV.snap1 (h.set m (.row 2 1 v2 (g.met.map iv) (max kk (0 + g.met.length))) ++ l) (.own 1 m v2 0 g.met.length) = some (.slc 1 false false (g.met.map iv)) := by
    simp only [AV.snap1, AV.snap0, row_at (his_get hmm) (show 0 + g.met.length ≤ (g.met.map iv).length by simp)]
    rw [if_pos (Nat.le_max_right _ _), List.drop_zero, List.take_of_length_le (by simp)]
   simp only [List.mapM_cons, List.mapM_nil, this, snap_int, Option.pure_def, Option.bind_eq_bind, Option.bind_some]
 ·refine hrs.below c.bel fun j hj o ho => ?_
  simp only [List.mem_cons, List.not_mem_nil, or_false] at hj
  have hb := List.all_eq_true.1 c.bel
  rw [hrs.1]
  rcases hj with rfl | rfl | rfl
  ·rw [List.getElem?_set_ne n1] at ho; exact hb o (List.mem_of_getElem? ho)
  ·rw [List.getElem?_set_ne n2] at ho; exact hb o (List.mem_of_getElem? ho)
  ·rw [hmm] at ho; cases ho; rfl
theorem Dp.name (c : Dp h b rl m code g) (hl : g.met.length ≤ 900000) (n : Int) {M : AV} (hM : ∀ l : List AO, Q76 (h ++ l) false 1 (.ptr b 1) = some M) :
  ∃ M' h1 h2, (∀ l : List AO, evAppend (h ++ l) 2 1 8 M (.slc 1 true true [.v (.int .i64 n)]) = some (M', h1 ++ l)) ∧ (∀ l : List AO, Q113 (h1 ++ l) 1 (.ptr b 1) M' = some (h2 ++ l)) ∧ Dp h2 b rl m code { g with met := g.met ++ [n] } ∧ Rs [b, rl, m] h h2 := by
 obtain ⟨hlb, hlr, hlt, n1, n2, n3⟩ := c.mb
 obtain ⟨v2, kk, ob, hr, hk⟩ := c.ex
 obtain ⟨ver, h1, h2⟩ := ob.ex
 have hMe : M = .own 1 m v2 0 g.met.length := by
  have := hM []
  rw [bx_ld (his_get h1)] at this
  simpa [Q77] using this.symm
 subst hMe
 have hra : ∀ l, rowAt (h ++ l) 1 m v2 (0 + g.met.length) = some (g.met.map iv, kk) := fun l => row_at (his_get hr) (by simp)
 have hrt : ∀ l, rowT (h ++ l) m = 2 := fun l => by simp only [rowT, his_get hr]
 have fit : fits (g.met.length + 1) 8 = true := fits_small (by omega) (by omega)
 obtain ⟨k1, hk1⟩ : ∃ k1, h.set m (.row 2 1 (v2 + 1) ((g.met ++ [n]).map iv) kk) = k1 := ⟨_, rfl⟩
 have hl1 : k1.length = h.length := by rw [← hk1]; simp
 have hb1 : k1[b]? = some (.box 68 [.own 5 rl ver 0 code.length, .own 1 m v2 0 g.met.length, .v (.int .i64 g.next)]) := by rw [← hk1, List.getElem?_set_ne n1]; exact h1
 obtain ⟨k2, hk2⟩ : ∃ k2, k1.set b (.box 68 [.own 5 rl ver 0 code.length, .own 1 m (v2 + 1) 0 (g.met.length + 1), .v (.int .i64 g.next)]) = k2 := ⟨_, rfl⟩
 have hrs : Rs [b, rl, m] h k2 := by
  rw [← hk2, ← hk1]
  exact (Rs.set (by simp)).trans (Rs.set (by simp))
 have hm2 : k2[m]? = some (.row 2 1 (v2 + 1) ((g.met ++ [n]).map iv) kk) := by rw [← hk2, List.getElem?_set_ne (Ne.symm n1), ← hk1]; simp [hlt]
 have hb2 : k2[b]? = some (.box 68 [.own 5 rl ver 0 code.length, .own 1 m (v2 + 1) 0 (g.met.length + 1), .v (.int .i64 g.next)]) := by rw [← hk2]; simp [hl1, hlb]
 have hr2 : k2[rl]? = some (.row 41 5 ver (code.map o5) 0) := by rw [← hk2, List.getElem?_set_ne n3, ← hk1, List.getElem?_set_ne n2]; exact h2
 refine ⟨.own 1 m (v2 + 1) 0 (g.met.length + 1), k1, k2, fun l => ?_, fun l => ?_, ⟨⟨v2 + 1, kk, ⟨ver, ?_, hr2⟩, hm2, by simp; omega⟩, ?_⟩, hrs⟩
 ·have e : ((g.met.map iv).drop 0).take g.met.length = g.met.map iv := by rw [List.drop_zero, List.take_of_length_le (by simp)]
  rw [evAppend, elems_one]
  simp only [evAppendL, if_true, hra l, hrt l, show kk ≤ 0 + g.met.length by omega, and_self]
  rw [if_neg (by simp), if_pos (by simpa using fit), e, set_app hlt, ← hk1, List.map_append]
  rfl
 ·rw [bx_st (his_get hb1) (n := 1) (xs := [.own 1 m (v2 + 1) 0 (g.met.length + 1)]) rfl rfl (by simp), set_app (by omega), ← hk2]
  rfl
 ·rw [hb2, List.length_append]; rfl
 ·refine hrs.below c.bel fun j hj o ho => ?_
  rw [hrs.1]
  simp only [List.mem_cons, List.not_mem_nil, or_false] at hj
  rcases hj with rfl | rfl | rfl
  ·rw [hb2] at ho; cases ho
   simp [AO.below, AV.below1, AV.below0, hlr, hlt]
  ·rw [hr2] at ho; cases ho; rfl
  ·rw [hm2] at ho; cases ho; rfl
theorem bxl {H : List AO} {cs : List AV} {bt : TypeId} : (H ++ [AO.box bt cs])[H.length]? = some (.box bt cs) := by simp
end
end Go.AE.YtghgbbiklkpbnaaDoor
end

section
namespace Go.AE.YtghgbbiklkpbnaaDoor
open Go Go.AE Go.Proofs.YtghgbbiklkpbnaaDoor

section
variable {rt : TypeId} {h H : List AO} {B b rl m : Nat} {code : List Op5} {g : Sg} {Q : AV} {es ys : List AV}
theorem Dp.obj {H' : List AO} {o : AO} (c : Dp H b rl m code g) (rs : Rs [b, rl, m] (H ++ [o]) H') : H'[H.length]? = some o := by
 rw [rs.2 H.length (c.nin (Nat.le_refl _))]; simp
theorem Dp.pre {code' : List Op5} {g' : Sg} (c : Dp h b rl m code g) (c2 : Dp H b rl m code' g') (gb : Gb h.length [b, rl, m] h H) : ∃ h3 l, H = h3 ++ l ∧ Dp h3 b rl m code' g' ∧ Rs [b, rl, m] h h3 := by
 obtain ⟨hlb, hlr, hlt, _⟩ := c.mb
 have hle := gb.1
 have get : ∀ j, j < h.length → (H.take h.length)[j]? = H[j]? := fun j hj => by rw [List.getElem?_take_of_lt hj]
 have hl : (H.take h.length).length = h.length := by simp [hle]
 have rs3 : Rs [b, rl, m] h (H.take h.length) := by
  refine ⟨hl, fun j hj => ?_⟩
  by_cases hjl : j < h.length
  ·rw [get j hjl, gb.2 j hjl hj]
  ·rw [List.getElem?_eq_none (by omega), List.getElem?_eq_none (by omega)]
 refine ⟨H.take h.length, H.drop h.length, (List.take_append_drop _ _).symm, c2.of ?_ ?_, rs3⟩
 ·intro j hj
  refine get j ?_
  simp only [List.mem_cons, List.not_mem_nil, or_false] at hj
  rcases hj with rfl | rfl | rfl <;> assumption
 ·refine rs3.below c.bel fun j hj o ho => ?_
  obtain ⟨v2, kk, ob, hm, hk⟩ := c2.ex
  obtain ⟨ver, e1, e2⟩ := ob.ex
  simp only [List.mem_cons, List.not_mem_nil, or_false] at hj
  rcases hj with rfl | rfl | rfl
  ·rw [(get j hlb).trans e1] at ho; cases ho
   simp [AO.below, AV.below1, AV.below0, hl, hlr, hlt]
  ·rw [(get j hlr).trans e2] at ho; cases ho; rfl
  ·rw [(get j hlt).trans hm] at ho; cases ho; rfl
def Hd (x : AV) (es : List AV) : Prop := (x = .v (.slice none 0 0) ∧ es = []) ∨ ∃ ex, x = .slc 5 ex ex es
theorem Hd.elems {x : AV} (a : Hd x es) (H : List AO) : elemsOf H 5 x = some es := by
 rcases a with ⟨rfl, rfl⟩ | ⟨ex, rfl⟩ <;> rfl
theorem Qr.frz (q : Qr rt H B Q es) : ∃ R, Q.frz2 B H = some R ∧ (R = .v (.slice none 0 0) ∧ es = [] ∨ ∃ ex nn, R = .slc 5 ex nn es) := by
 cases q with
 | nil => exact ⟨_, rfl, .inl ⟨rfl, rfl⟩⟩
 | slc es => exact ⟨_, rfl, .inr ⟨_, _, rfl⟩⟩
 | own id ver off L es hr hd ho hB =>
  refine ⟨.slc 5 false false es, ?_, .inr ⟨_, _, rfl⟩⟩
  simp only [AV.frz2, AV.frz1, AV.frz0, Nat.not_lt.2 hB, if_false, row_at hr (show off + es.length ≤ L.length by omega), hd]
  rw [List.take_of_length_le (Nat.le_refl _)]
end
end Go.AE.YtghgbbiklkpbnaaDoor
end

section
namespace Go.AE.YtghgbbiklkpbnaaDoor
open Go Go.AE Go.Proofs.YtghgbbiklkpbnaaDoor

section
variable {h : List AO} {b rl m : Nat} {code : List Op5} {g : Sg}
end
end Go.AE.YtghgbbiklkpbnaaDoor
end

section
namespace Go.AE.YtghgbbiklkpbnaaDoor
open Go Go.AE Go.Proofs.YtghgbbiklkpbnaaDoor

inductive Ar (H : List AO) (B : Nat) : AV → List Nat → Prop
 | nil : Ar H B (.v (.slice none 0 0)) []
 | own (id ver : Nat) (ks : List Nat) (hr : H[id]? = some (.row 3 1 ver (ks.map fun k : Nat => iv k) 0)) (hB : B ≤ id) : Ar H B (.own 1 id ver 0 ks.length) ks
section
variable {h H : List AO} {B b rl m : Nat} {code : List Op5} {g : Sg} {x : AV} {ks : List Nat}
theorem Ar.of {H' : List AO} (q : Ar H B x ks) (e : ∀ id, B ≤ id → id < H.length → H'[id]? = H[id]?) : Ar H' B x ks := by
 cases q with
 | nil => exact .nil
 | own id ver ks hr hB => exact .own id ver ks ((e id hB (List.getElem?_eq_some_iff.1 hr).1).trans hr) hB
theorem Ar.app (q : Ar H B x ks) (l : List AO) : Ar (H ++ l) B x ks := q.of fun id _ h => List.getElem?_append_left h
theorem Ar.el (q : Ar H B x ks) {i k : Nat} (hk : ks[i]? = some k) : ∃ y, iaV H 1 x (some i) = some y ∧ Q76 H false 1 y = some (iv k) := by
 cases q with
 | nil => simp at hk
 | own id ver ks hr hB =>
  have hi := (List.getElem?_eq_some_iff.1 hk).1
  refine ⟨.ep 1 id ver i 0, row_ia hr (by simp) hi, row_ld hr (i := i) (e := iv k) (by rw [List.getElem?_map, hk]; rfl) (el_iv k)⟩
end
end Go.AE.YtghgbbiklkpbnaaDoor
end

section
namespace Go.AE.YtghgbbiklkpbnaaDoor
open Go Go.AE Go.Proofs.YtghgbbiklkpbnaaDoor

end Go.AE.YtghgbbiklkpbnaaDoor
end

section
namespace Go.AE.YtghgbbiklkpbnaaDoor
open Go Go.AE Go.Proofs.YtghgbbiklkpbnaaDoor

end Go.AE.YtghgbbiklkpbnaaDoor
end

section
namespace Go.AE.YtghgbbiklkpbnaaDoor
open Go Go.AE Go.Proofs.YtghgbbiklkpbnaaDoor
set_option maxRecDepth 1000000 in
theorem live_n : callN F 40 5 [] [] = some (.v (.bool true), []) := by kernel_rfl
theorem live_ok : callW F 5 [] [] = some (.v (.bool true), []) := callW_iff.2 ⟨_, live_n⟩
end Go.AE.YtghgbbiklkpbnaaDoor
end

section
namespace Go.AE.YtghgbbiklkpbnaaDoor
open Go Go.AE Go.Proofs.YtghgbbiklkpbnaaDoor

theorem st6 {h : List AO} {ca : AV} (h6 : Six ca) : Q113 (h ++ [.box 35 zero6]) 6 (.ptr h.length 0) ca = some (h ++ [.box 35 ca.cells]) := st_new h6.1 h6.2 rfl
end Go.AE.YtghgbbiklkpbnaaDoor
end

section
namespace Go.AE.YtghgbbiklkpbnaaDoor.Chk
open Go Go.AE Go.Proofs.YtghgbbiklkpbnaaDoor

abbrev MR := Nat × List (Value × AV)
def upd (k : Value) (x : AV) (R : MR) : MR := (R.1, Go.AE.upd k x R.2)
def m0 : MR := (0, [])
def clrR (R : MR) : MR := (R.1 + R.2.length, [])
def Seen (k : IntKind) (R : MR) (S : List Int) : Prop := Go.AE.Seen k R.2 S
theorem Seen.nil (k : IntKind) : Seen k m0 [] := Go.AE.Seen.nil k
theorem Seen.clr {k : IntKind} (R : MR) : Seen k (clrR R) [] := Go.AE.Seen.nil k
theorem Seen.add {k : IntKind} {R : MR} {S : List Int} (h : Seen k R S) (a : Int) : Seen k (upd (.int k a) (.v (.bool true)) R) (a :: S) := Go.AE.Seen.add h a
abbrev In := Op5
inductive IsIn : AV → In → Prop
 | mk (op a b : Int) (nm : ByteArray) (n : Int) : IsIn (.agg [.v (.int .i64 op), .v (.int .i64 a), .v (.int .i64 b), .v (.string nm), .v (.int .i64 n)]) ⟨op, a, b, nm, n⟩
def inC (i : In) : List AV := [.v (.int .i64 i.op), .v (.int .i64 i.a), .v (.int .i64 i.b), .v (.string i.nm), .v (.int .i64 i.n)]
def inV (i : In) : AV := .agg (inC i)
theorem IsIn.eq {a : AV} {i : In} (h : IsIn a i) : a = inV i := by cases h; rfl
def vH (c0 : AV) (c1 c2 : Int) (c3 : AV) (R N : MR) (p o u : Int) (hd ov : Bool) (T : List AO) : List AO :=
 .box 24 [c0, .v (.int .i64 c1), .v (.int .i64 c2), c3] :: .map (.int .i64) R.1 R.2 :: .map (.int .i64) N.1 N.2 :: .box 46 [c0, .v (.int .i64 c1), .v (.int .i64 c2), c3, .mp 1, .mp 2, .v (.int .i64 p), .v (.int .i64 o), .v (.int .i64 u), .v (.bool hd), .v (.bool ov)] :: T
section
variable {c0 c3 : AV} {c1 c2 : Int} {R N : MR} {p o u : Int} {hd ov : Bool} {T : List AO}
theorem v_len : (vH c0 c1 c2 c3 R N p o u hd ov T).length = T.length + 4 := rfl
theorem v_ld2 : Q76 (vH c0 c1 c2 c3 R N p o u hd ov T) false 1 (.ptr 3 2) = some (.v (.int .i64 c2)) := rfl
theorem v_ld4 : Q76 (vH c0 c1 c2 c3 R N p o u hd ov T) false 1 (.ptr 3 4) = some (.mp 1) := rfl
theorem v_ld5 : Q76 (vH c0 c1 c2 c3 R N p o u hd ov T) false 1 (.ptr 3 5) = some (.mp 2) := rfl
theorem v_ld6 : Q76 (vH c0 c1 c2 c3 R N p o u hd ov T) false 1 (.ptr 3 6) = some (.v (.int .i64 p)) := rfl
theorem v_ld7 : Q76 (vH c0 c1 c2 c3 R N p o u hd ov T) false 1 (.ptr 3 7) = some (.v (.int .i64 o)) := rfl
theorem v_ld8 : Q76 (vH c0 c1 c2 c3 R N p o u hd ov T) false 1 (.ptr 3 8) = some (.v (.int .i64 u)) := rfl
theorem v_ld9 : Q76 (vH c0 c1 c2 c3 R N p o u hd ov T) false 1 (.ptr 3 9) = some (.v (.bool hd)) := rfl
theorem v_ld10 : Q76 (vH c0 c1 c2 c3 R N p o u hd ov T) false 1 (.ptr 3 10) = some (.v (.bool ov)) := rfl
theorem v_st6 {q : Int} : Q113 (vH c0 c1 c2 c3 R N p o u hd ov T) 1 (.ptr 3 6) (.v (.int .i64 q)) = some (vH c0 c1 c2 c3 R N q o u hd ov T) := rfl
theorem v_st7 {q : Int} : Q113 (vH c0 c1 c2 c3 R N p o u hd ov T) 1 (.ptr 3 7) (.v (.int .i64 q)) = some (vH c0 c1 c2 c3 R N p q u hd ov T) := rfl
theorem v_st8 {q : Int} : Q113 (vH c0 c1 c2 c3 R N p o u hd ov T) 1 (.ptr 3 8) (.v (.int .i64 q)) = some (vH c0 c1 c2 c3 R N p o q hd ov T) := rfl
theorem v_st9 {q : Bool} : Q113 (vH c0 c1 c2 c3 R N p o u hd ov T) 1 (.ptr 3 9) (.v (.bool q)) = some (vH c0 c1 c2 c3 R N p o u q ov T) := rfl
theorem v_st10 {q : Bool} : Q113 (vH c0 c1 c2 c3 R N p o u hd ov T) 1 (.ptr 3 10) (.v (.bool q)) = some (vH c0 c1 c2 c3 R N p o u hd q T) := rfl
theorem v_bx {cs : List AV} : bx (vH c0 c1 c2 c3 R N p o u hd ov T) 41 (some cs) = some (.ptr (T.length + 4) 0, vH c0 c1 c2 c3 R N p o u hd ov (T ++ [.box 41 cs])) := rfl
theorem v_at {x : AO} : (vH c0 c1 c2 c3 R N p o u hd ov (T ++ [x]))[T.length + 4]? = some x := by simp [vH]
theorem v_l0 {i : In} : Q76 (vH c0 c1 c2 c3 R N p o u hd ov (T ++ [.box 41 (inC i)])) false 1 (.ptr (T.length + 4) 0) = some (.v (.int .i64 i.op)) := by simp only [Q76, v_at]; rfl
theorem v_l1 {i : In} : Q76 (vH c0 c1 c2 c3 R N p o u hd ov (T ++ [.box 41 (inC i)])) false 1 (.ptr (T.length + 4) 1) = some (.v (.int .i64 i.a)) := by simp only [Q76, v_at]; rfl
theorem v_l2 {i : In} : Q76 (vH c0 c1 c2 c3 R N p o u hd ov (T ++ [.box 41 (inC i)])) false 1 (.ptr (T.length + 4) 2) = some (.v (.int .i64 i.b)) := by simp only [Q76, v_at]; rfl
theorem v_l3 {i : In} : Q76 (vH c0 c1 c2 c3 R N p o u hd ov (T ++ [.box 41 (inC i)])) false 1 (.ptr (T.length + 4) 3) = some (.v (.string i.nm)) := by simp only [Q76, v_at]; rfl
theorem v_l4 {i : In} : Q76 (vH c0 c1 c2 c3 R N p o u hd ov (T ++ [.box 41 (inC i)])) false 1 (.ptr (T.length + 4) 4) = some (.v (.int .i64 i.n)) := by simp only [Q76, v_at]; rfl
theorem v_la {i : In} : Q76 (vH c0 c1 c2 c3 R N p o u hd ov (T ++ [.box 41 (inC i)])) true 5 (.ptr (T.length + 4) 0) = some (inV i) := by simp only [Q76, v_at]; rfl
theorem v_sti {i : In} {z : List AV} (hz : z.length = 5) : Q113 (vH c0 c1 c2 c3 R N p o u hd ov (T ++ [.box 41 z])) 5 (.ptr (T.length + 4) 0) (inV i) = some (vH c0 c1 c2 c3 R N p o u hd ov (T ++ [.box 41 (inC i)])) :=
 st_new (h := vH c0 c1 c2 c3 R N p o u hd ov T) (show (inV i).cl = some (inC i) from rfl) (show (inC i).length = 5 from rfl) hz
theorem v_lk1 {S : List Int} (h : Seen .i64 R S) (n : Int) : evLook (vH c0 c1 c2 c3 R N p o u hd ov T) (.int .i64) (.bool false) false (.mp 1) (.v (.int .i64 n)) = some (.v (.bool (S.contains n))) := Go.AE.Seen.look h rfl n
theorem v_lk2 {S : List Int} (h : Seen .i64 N S) (n : Int) : evLook (vH c0 c1 c2 c3 R N p o u hd ov T) (.int .i64) (.bool false) false (.mp 2) (.v (.int .i64 n)) = some (.v (.bool (S.contains n))) := Go.AE.Seen.look h rfl n
theorem v_up1 {n : Int} : evUpd (vH c0 c1 c2 c3 R N p o u hd ov T) (.int .i64) (.mp 1) (.v (.int .i64 n)) (.v (.bool true)) = some (vH c0 c1 c2 c3 (upd (.int .i64 n) (.v (.bool true)) R) N p o u hd ov T) := Go.AE.upd_map (y := .v (.bool true)) rfl n rfl
theorem v_up2 {n : Int} : evUpd (vH c0 c1 c2 c3 R N p o u hd ov T) (.int .i64) (.mp 2) (.v (.int .i64 n)) (.v (.bool true)) = some (vH c0 c1 c2 c3 R (upd (.int .i64 n) (.v (.bool true)) N) p o u hd ov T) := Go.AE.upd_map (y := .v (.bool true)) rfl n rfl
theorem v_clr : evClrM (vH c0 c1 c2 c3 R N p o u hd ov T) (.mp 1) = some (vH c0 c1 c2 c3 (clrR R) N p o u hd ov T) := rfl
theorem e_clrmap {call : CallF} {vars env : List AV} {h : List AO} {m : Opd} : evOp call vars env h (.clrmap m) = stH (evClrM h (getO vars env m)) := by
 simp only [evOp]; cases evClrM h (getO vars env m) <;> rfl
theorem v_app : vH c0 c1 c2 c3 R N p o u hd ov T ++ [] = vH c0 c1 c2 c3 R N p o u hd ov T := by simp
theorem v_below (h0 : c0.below1 0 = true) (h3 : c3.below1 0 = true) (hT : T.all (AO.below 0) = true) : (vH c0 c1 c2 c3 R N p o u hd ov T).all (AO.below (T.length + 4)) = true := by
 have m0 : ∀ x : AV, x.below1 0 = true → x.below1 (T.length + 4) = true := fun x h => by
  have := all_below_mono (n := 0) (m := T.length + 4) (by omega) (H := [.box 24 [x]]) (by simpa [AO.below] using h)
  simpa [AO.below] using this
 have := all_below_mono (n := 0) (m := T.length + 4) (by omega) hT
 simp only [vH, List.all_cons, this, AO.below, List.all_nil, m0 c0 h0, m0 c3 h3, Bool.and_true, Bool.true_and]
 simp [AV.below1, AV.below0]
theorem v_leave {c : CFun} {vars : List AV} {l : List AO} {x : Value} (h0 : c0.below1 0 = true) (h3 : c3.below1 0 = true) (hT : T.all (AO.below 0) = true) {i : Nat} (hc : c.res = [.var i]) (hx : getO vars [] (.var i) = .v x) : leave (T.length + 4) c (some (.ret, vars, vH c0 c1 c2 c3 R N p o u hd ov (T ++ l))) = some (.v x, vH c0 c1 c2 c3 R N p o u hd ov T) := by
 have h := (show vH c0 c1 c2 c3 R N p o u hd ov (T ++ l) = (vH c0 c1 c2 c3 R N p o u hd ov T) ++ l from rfl)
 rw [h, leave_own (B := T.length + 4) rfl (v_below h0 h3 hT), hc]
 have h1 : resOf vars (vH c0 c1 c2 c3 R N p o u hd ov T ++ l) (.var i) = some (.v x) := by
  have : resOf vars (vH c0 c1 c2 c3 R N p o u hd ov T ++ l) (.var i) = some (getO vars [] (.var i)) := rfl
  rw [this, hx]
 rw [own_res1 h1]
 exact lvo_one rfl
end
end Go.AE.YtghgbbiklkpbnaaDoor.Chk
end

section
namespace Go.AE.YtghgbbiklkpbnaaDoor.Chk
open Go Go.AE Go.Proofs.YtghgbbiklkpbnaaDoor

def rowT (op : Int) : Int × Int × Bool :=
 if op < 1 ∨ op > 23 then (0, 0, false) else if op ≥ 21 then (4, op - 21, true) else ((op - 1) / 5, (op - 1) % 5, true)
def rowV (r : Int × Int × Bool) : AV := .tup [.v (.int .i64 r.1), .v (.int .i64 r.2.1), .v (.bool r.2.2)]
theorem row_ok (op : Int) : callW F 13 [.v (.int .i64 op)] [] = some (rowV (rowT op), []) := by
 by_cases h1 : op < 1
 ·have d1 : decide (op < 1) = true := by simpa using h1
  have e : rowT op = (0, 0, false) := by simp [rowT, h1]
  rw [e]
  refine callW_pure (c := c13) rfl rfl 0 ?_
  simp only [c13, start, List.replicate, c13_0, c13_1, c13_2, d1, Q0, Q1, Q2, Q3, Q4, Q5, Q6, Q7, Q8, Q9, Q10, Q11, Q12, Q13, Q14, Q15, Q16, Q17, Q18, Q19, Q20, Q21, Q22, Q23, Q24, Q25, Q26, Q27, Q28, Q29, Q30, Q31, Q32, Q33, Q35, Q36, Q37, Q38, Q39, Q40, Q41, Q42, Q43, Q44, Q45, Q46, Q47, Q48, Q49, Q50, Q51, Q52, Q53, Q54, Q55, Q56, Q57, Q58, Q59, Q60, Q61, Q62, Q63, Q64, Q65, Q66, Q67, Q68, Q69, Q70, Q71, Q72, Q73, Q99, Q100, Q101, Q102, Q103, Q74, Q75, Q77, Q78, Q79, Q80, Q81, Q82, Q83, Q84, clr, List.length_nil, List.length_cons, List.getElem?_cons_zero, List.getElem?_cons_succ, Nat.reduceAdd, Nat.zero_add, Nat.add_zero, Nat.reduceLeDiff, Nat.reduceSub, ↓reduceIte, List.drop_succ_cons, List.drop_zero, List.take_succ_cons, List.take_zero, Bool.false_eq_true, List.nil_append, List.cons_append, Bool.not_true, Bool.not_false, cond_true, cond_false, bne, Q85, Q86, Q87, Q88, Q89, Q90, Q91, Q92, Q93, Q94, Q95, Q96, Q97, Q98, Q110, Q111, Q116, Q117, Q118, Q119, Q120, Q121, Q122, Q123, Option.map_some, Option.map_none, Q34]
  rfl
 ·by_cases h2 : op > 23
  ·have d1 : decide (op < 1) = false := by simpa using h1
   have d2 : decide (op > 23) = true := by simpa using h2
   have e : rowT op = (0, 0, false) := by simp [rowT, h2]
   rw [e]
   refine callW_pure (c := c13) rfl rfl 0 ?_
   simp only [c13, start, List.replicate, c13_0, c13_1, c13_2, d1, d2, Q0, Q1, Q2, Q3, Q4, Q5, Q6, Q7, Q8, Q9, Q10, Q11, Q12, Q13, Q14, Q15, Q16, Q17, Q18, Q19, Q20, Q21, Q22, Q23, Q24, Q25, Q26, Q27, Q28, Q29, Q30, Q31, Q32, Q33, Q35, Q36, Q37, Q38, Q39, Q40, Q41, Q42, Q43, Q44, Q45, Q46, Q47, Q48, Q49, Q50, Q51, Q52, Q53, Q54, Q55, Q56, Q57, Q58, Q59, Q60, Q61, Q62, Q63, Q64, Q65, Q66, Q67, Q68, Q69, Q70, Q71, Q72, Q73, Q99, Q100, Q101, Q102, Q103, Q74, Q75, Q77, Q78, Q79, Q80, Q81, Q82, Q83, Q84, clr, List.length_nil, List.length_cons, List.getElem?_cons_zero, List.getElem?_cons_succ, Nat.reduceAdd, Nat.zero_add, Nat.add_zero, Nat.reduceLeDiff, Nat.reduceSub, ↓reduceIte, List.drop_succ_cons, List.drop_zero, List.take_succ_cons, List.take_zero, Bool.false_eq_true, List.nil_append, List.cons_append, Bool.not_true, Bool.not_false, cond_true, cond_false, bne, Q85, Q86, Q87, Q88, Q89, Q90, Q91, Q92, Q93, Q94, Q95, Q96, Q97, Q98, Q110, Q111, Q116, Q117, Q118, Q119, Q120, Q121, Q122, Q123, Option.map_some, Option.map_none, Q34]
   rfl
  ·have h : op = 1 ∨ op = 2 ∨ op = 3 ∨ op = 4 ∨ op = 5 ∨ op = 6 ∨ op = 7 ∨ op = 8 ∨ op = 9 ∨ op = 10 ∨ op = 11 ∨ op = 12 ∨ op = 13 ∨ op = 14 ∨ op = 15 ∨ op = 16 ∨ op = 17 ∨ op = 18 ∨ op = 19 ∨ op = 20 ∨ op = 21 ∨ op = 22 ∨ op = 23 := by omega
   rcases h with rfl | rfl | rfl | rfl | rfl | rfl | rfl | rfl | rfl | rfl | rfl | rfl | rfl | rfl | rfl | rfl | rfl | rfl | rfl | rfl | rfl | rfl | rfl <;> exact callW_iff.2 ⟨3, by kernel_rfl⟩

def standsT (S : List Int) (p o : Int) (hd : Bool) (r k : Int) (i : In) : Bool :=
 if r = 0 then hd && ((p == 0) && S.contains i.a)
 else if r = 1 ∨ r = 3 then decide (p > 0) && (o == r - 1)
 else if r = 2 then (p == 0) && (decide (i.a ≥ 0) && ((decide (i.a < 16) || (k == 4)) && (hd || !(S.contains i.a))))
 else p == 0
section
variable {c0 c3 : AV} {c1 c2 : Int} {R N : MR} {p o u : Int} {hd ov : Bool} {T : List AO} {S : List Int}
theorem stands_ok (h0 : c0.below1 0 = true) (h3 : c3.below1 0 = true) (hT : T.all (AO.below 0) = true) (hR : Seen .i64 R S) {r k : Int} (hr : 0 ≤ r ∧ r ≤ 4) (i : In) :
  callW F 14 [.ptr 3 0, .v (.int .i64 r), .v (.int .i64 k), inV i] (vH c0 c1 c2 c3 R N p o u hd ov T) = some (.v (.bool (standsT S p o hd r k i)), vH c0 c1 c2 c3 R N p o u hd ov T) := by
 refine callW_own (c := c14) rfl rfl 0 ?_
 have cl := (show (inV i).cl = some (inC i) from rfl)
 have key : ∀ vars : List AV, getO vars [] (.var 5) = .v (.bool (standsT S p o hd r k i)) → leave (T.length + 4) c14 (some (.ret, vars, vH c0 c1 c2 c3 R N p o u hd ov (T ++ [.box 41 (inC i)]))) = some (.v (.bool (standsT S p o hd r k i)), vH c0 c1 c2 c3 R N p o u hd ov T) :=
  fun vars hx => v_leave h0 h3 hT rfl hx
 rw [v_app, v_len]
 obtain ⟨x, hx⟩ : ∃ x, x = S.contains i.a := ⟨_, rfl⟩
 have lk := fun T => v_lk1 (c0 := c0) (c1 := c1) (c2 := c2) (c3 := c3) (N := N) (p := p) (o := o) (u := u) (hd := hd) (ov := ov) (T := T) hR i.a
 rw [← hx] at lk
 have hr5 : r = 0 ∨ r = 1 ∨ r = 2 ∨ r = 3 ∨ r = 4 := by omega
 rcases hr5 with rfl | rfl | rfl | rfl | rfl
 ·have e : standsT S p o hd 0 k i = (hd && ((p == 0) && x)) := by rw [hx]; simp [standsT]
  rw [e] at key ⊢
  cases hd <;> cases hp : (p == 0) <;> rw [hp] at key <;>
   simp only [c14, start, List.replicate, c14_0, c14_1, c14_2, c14_3, cl, v_bx, v_ld9, v_ld6, v_ld4, v_l1, hp, lk, e_lookup, Int.reduceBEq, Q0, Q1, Q2, Q3, Q4, Q5, Q6, Q7, Q8, Q9, Q10, Q11, Q12, Q13, Q14, Q15, Q16, Q17, Q18, Q19, Q20, Q21, Q22, Q23, Q24, Q25, Q26, Q27, Q28, Q29, Q30, Q31, Q32, Q33, Q35, Q36, Q37, Q38, Q39, Q40, Q41, Q42, Q43, Q44, Q45, Q46, Q47, Q48, Q49, Q50, Q51, Q52, Q53, Q54, Q55, Q56, Q57, Q58, Q59, Q60, Q61, Q62, Q63, Q64, Q65, Q66, Q67, Q68, Q69, Q70, Q71, Q72, Q73, Q99, Q100, Q101, Q102, Q103, Q74, Q75, Q77, Q78, Q79, Q80, Q81, Q82, Q83, Q84, clr, List.length_nil, List.length_cons, List.getElem?_cons_zero, List.getElem?_cons_succ, Nat.reduceAdd, Nat.zero_add, Nat.add_zero, Nat.reduceLeDiff, Nat.reduceSub, ↓reduceIte, List.drop_succ_cons, List.drop_zero, List.take_succ_cons, List.take_zero, Bool.false_eq_true, List.nil_append, List.cons_append, Bool.not_true, Bool.not_false, cond_true, cond_false, bne, Q85, Q86, Q87, Q88, Q89, Q90, Q91, Q92, Q93, Q94, Q95, Q96, Q97, Q98, Q110, Q111, Q116, Q117, Q118, Q119, Q120, Q121, Q122, Q123, Option.map_some, Option.map_none] <;>
   exact key _ rfl
 ·have e : standsT S p o hd 1 k i = (decide (p > 0) && (o == 0)) := by simp [standsT]
  have hw : IntKind.i64.wrap (1 - 1) = 0 := by decide
  rw [e] at key ⊢
  cases hp : decide (p > 0) <;> rw [hp] at key <;>
   simp only [c14, start, List.replicate, c14_0, c14_1, c14_2, c14_4, c14_6, cl, v_bx, v_ld6, v_ld7, hp, hw, Int.reduceBEq, Q0, Q1, Q2, Q3, Q4, Q5, Q6, Q7, Q8, Q9, Q10, Q11, Q12, Q13, Q14, Q15, Q16, Q17, Q18, Q19, Q20, Q21, Q22, Q23, Q24, Q25, Q26, Q27, Q28, Q29, Q30, Q31, Q32, Q33, Q35, Q36, Q37, Q38, Q39, Q40, Q41, Q42, Q43, Q44, Q45, Q46, Q47, Q48, Q49, Q50, Q51, Q52, Q53, Q54, Q55, Q56, Q57, Q58, Q59, Q60, Q61, Q62, Q63, Q64, Q65, Q66, Q67, Q68, Q69, Q70, Q71, Q72, Q73, Q99, Q100, Q101, Q102, Q103, Q74, Q75, Q77, Q78, Q79, Q80, Q81, Q82, Q83, Q84, clr, List.length_nil, List.length_cons, List.getElem?_cons_zero, List.getElem?_cons_succ, Nat.reduceAdd, Nat.zero_add, Nat.add_zero, Nat.reduceLeDiff, Nat.reduceSub, ↓reduceIte, List.drop_succ_cons, List.drop_zero, List.take_succ_cons, List.take_zero, Bool.false_eq_true, List.nil_append, List.cons_append, Bool.not_true, Bool.not_false, cond_true, cond_false, bne, Q85, Q86, Q87, Q88, Q89, Q90, Q91, Q92, Q93, Q94, Q95, Q96, Q97, Q98, Q110, Q111, Q116, Q117, Q118, Q119, Q120, Q121, Q122, Q123, Option.map_some, Option.map_none] <;>
   exact key _ rfl
 ·have e : standsT S p o hd 2 k i = ((p == 0) && (decide (i.a ≥ 0) && ((decide (i.a < 16) || (k == 4)) && (hd || !x)))) := by rw [hx]; simp [standsT]
  rw [e] at key ⊢
  cases hp : (p == 0) <;> cases ha : decide (i.a ≥ 0) <;> cases hb : decide (i.a < 16) <;> cases hk : (k == 4) <;> cases hd <;> rw [hp, ha, hb, hk] at key <;>
   simp only [c14, start, List.replicate, c14_0, c14_1, c14_2, c14_4, c14_5, c14_7, c14_8, cl, v_bx, v_ld9, v_ld6, v_ld4, v_l1, hp, ha, hb, hk, lk, e_lookup, Q122, Int.reduceBEq, Q0, Q1, Q2, Q3, Q4, Q5, Q6, Q7, Q8, Q9, Q10, Q11, Q12, Q13, Q14, Q15, Q16, Q17, Q18, Q19, Q20, Q21, Q22, Q23, Q24, Q25, Q26, Q27, Q28, Q29, Q30, Q31, Q32, Q33, Q35, Q36, Q37, Q38, Q39, Q40, Q41, Q42, Q43, Q44, Q45, Q46, Q47, Q48, Q49, Q50, Q51, Q52, Q53, Q54, Q55, Q56, Q57, Q58, Q59, Q60, Q61, Q62, Q63, Q64, Q65, Q66, Q67, Q68, Q69, Q70, Q71, Q72, Q73, Q99, Q100, Q101, Q102, Q103, Q74, Q75, Q77, Q78, Q79, Q80, Q81, Q82, Q83, Q84, clr, List.length_nil, List.length_cons, List.getElem?_cons_zero, List.getElem?_cons_succ, Nat.reduceAdd, Nat.zero_add, Nat.add_zero, Nat.reduceLeDiff, Nat.reduceSub, ↓reduceIte, List.drop_succ_cons, List.drop_zero, List.take_succ_cons, List.take_zero, Bool.false_eq_true, List.nil_append, List.cons_append, Bool.not_true, Bool.not_false, cond_true, cond_false, bne, Q85, Q86, Q87, Q88, Q89, Q90, Q91, Q92, Q93, Q94, Q95, Q96, Q97, Q98, Q110, Q111, Q116, Q117, Q118, Q119, Q120, Q121, Q122, Q123, Option.map_some, Option.map_none] <;>
   exact key _ rfl
 ·have e : standsT S p o hd 3 k i = (decide (p > 0) && (o == 2)) := by simp [standsT]
  have hw : IntKind.i64.wrap (3 - 1) = 2 := by decide
  rw [e] at key ⊢
  cases hp : decide (p > 0) <;> rw [hp] at key <;>
   simp only [c14, start, List.replicate, c14_0, c14_1, c14_2, c14_4, c14_5, c14_6, cl, v_bx, v_ld6, v_ld7, hp, hw, Int.reduceBEq, Q0, Q1, Q2, Q3, Q4, Q5, Q6, Q7, Q8, Q9, Q10, Q11, Q12, Q13, Q14, Q15, Q16, Q17, Q18, Q19, Q20, Q21, Q22, Q23, Q24, Q25, Q26, Q27, Q28, Q29, Q30, Q31, Q32, Q33, Q35, Q36, Q37, Q38, Q39, Q40, Q41, Q42, Q43, Q44, Q45, Q46, Q47, Q48, Q49, Q50, Q51, Q52, Q53, Q54, Q55, Q56, Q57, Q58, Q59, Q60, Q61, Q62, Q63, Q64, Q65, Q66, Q67, Q68, Q69, Q70, Q71, Q72, Q73, Q99, Q100, Q101, Q102, Q103, Q74, Q75, Q77, Q78, Q79, Q80, Q81, Q82, Q83, Q84, clr, List.length_nil, List.length_cons, List.getElem?_cons_zero, List.getElem?_cons_succ, Nat.reduceAdd, Nat.zero_add, Nat.add_zero, Nat.reduceLeDiff, Nat.reduceSub, ↓reduceIte, List.drop_succ_cons, List.drop_zero, List.take_succ_cons, List.take_zero, Bool.false_eq_true, List.nil_append, List.cons_append, Bool.not_true, Bool.not_false, cond_true, cond_false, bne, Q85, Q86, Q87, Q88, Q89, Q90, Q91, Q92, Q93, Q94, Q95, Q96, Q97, Q98, Q110, Q111, Q116, Q117, Q118, Q119, Q120, Q121, Q122, Q123, Option.map_some, Option.map_none] <;>
   exact key _ rfl
 ·have e : standsT S p o hd 4 k i = (p == 0) := by simp [standsT]
  rw [e] at key ⊢
  simp only [c14, start, List.replicate, c14_0, c14_1, c14_2, c14_4, c14_5, c14_7, c14_9, cl, v_bx, v_ld6, Int.reduceBEq, Q0, Q1, Q2, Q3, Q4, Q5, Q6, Q7, Q8, Q9, Q10, Q11, Q12, Q13, Q14, Q15, Q16, Q17, Q18, Q19, Q20, Q21, Q22, Q23, Q24, Q25, Q26, Q27, Q28, Q29, Q30, Q31, Q32, Q33, Q35, Q36, Q37, Q38, Q39, Q40, Q41, Q42, Q43, Q44, Q45, Q46, Q47, Q48, Q49, Q50, Q51, Q52, Q53, Q54, Q55, Q56, Q57, Q58, Q59, Q60, Q61, Q62, Q63, Q64, Q65, Q66, Q67, Q68, Q69, Q70, Q71, Q72, Q73, Q99, Q100, Q101, Q102, Q103, Q74, Q75, Q77, Q78, Q79, Q80, Q81, Q82, Q83, Q84, clr, List.length_nil, List.length_cons, List.getElem?_cons_zero, List.getElem?_cons_succ, Nat.reduceAdd, Nat.zero_add, Nat.add_zero, Nat.reduceLeDiff, Nat.reduceSub, ↓reduceIte, List.drop_succ_cons, List.drop_zero, List.take_succ_cons, List.take_zero, Bool.false_eq_true, List.nil_append, List.cons_append, Bool.not_true, Bool.not_false, cond_true, cond_false, bne, Q85, Q86, Q87, Q88, Q89, Q90, Q91, Q92, Q93, Q94, Q95, Q96, Q97, Q98, Q110, Q111, Q116, Q117, Q118, Q119, Q120, Q121, Q122, Q123, Option.map_some, Option.map_none]
  exact key _ rfl
end
end Go.AE.YtghgbbiklkpbnaaDoor.Chk
end

section
namespace Go.AE.YtghgbbiklkpbnaaDoor.Chk
open Go Go.AE Go.Proofs.YtghgbbiklkpbnaaDoor

def hasAll (S : List Int) (n : Nat) : Bool := (List.range n).all fun j => S.contains (j : Int)
def callsT (S : List Int) (hd : Bool) (n : Int) : Bool := !(decide (n < 0) || (decide (n > 16) || (hd && decide (n > 0)))) && hasAll S n.toNat
def wholeT (S Q : List Int) (vs : Int) (hd : Bool) (r k : Int) (i : In) : Bool :=
 if r = 4 ∧ i.op = 21 then callsT S hd i.n
 else if r = 4 ∨ k = 2 ∨ k = 3 then true
 else if k = 0 then decide (i.b ≥ 0) && (decide (i.b < vs) && !(Q.contains i.b))
 else if k = 1 then Q.contains i.b
 else if r = 0 ∨ r = 2 then decide (i.n ≥ 1) && decide (i.n ≤ 16)
 else decide (i.b ≥ 16) && (S.contains i.b == (r == 3))
def K17 : List Bool := [true, false, false, false, false, false, false, false, false, true, true, false, false, false, false, false, false]
def V17 (n j : Int) (x6 x11 x12 : AV) : List AV := [.ptr 3 0, .junk, .junk, .junk, .junk, .junk, x6, .junk, .junk, .v (.int .i64 n), .v (.int .i64 j), x11, x12, .junk, .junk, .junk, .junk]
section
variable {c0 c3 : AV} {c1 c2 : Int} {R N : MR} {p o u : Int} {hd ov : Bool} {T : List AO} {S Q : List Int}
theorem calls_loop {K : Nat} (hR : Seen .i64 R S) {n : Nat} (hn : n ≤ 16) (hK : n < K) (v : List AV) (hv : clr K17 v = V17 n 0 .junk .junk .junk) :
  (hasAll S n = true ∧ ∃ x6 x12, loopN (exec (callW F) K c15_10) K17 K v (vH c0 c1 c2 c3 R N p o u hd ov T) = some (.exit 1, V17 n n x6 (.v (.bool false)) x12, vH c0 c1 c2 c3 R N p o u hd ov T)) ∨
  (hasAll S n = false ∧ ∃ v', loopN (exec (callW F) K c15_10) K17 K v (vH c0 c1 c2 c3 R N p o u hd ov T) = some (.ret, v', vH c0 c1 c2 c3 R N p o u hd ov T) ∧ getO v' [] (.var 5) = .v (.bool false)) := by
 obtain ⟨e, v', h', g1, g2, g3⟩ := loop_rule0 (call := callW F) (K := K) (b := c15_10) (keep := K17) (fun j v h' => v = V17 n j .junk .junk .junk ∧ h' = vH c0 c1 c2 c3 R N p o u hd ov T ∧ hasAll S j = true)
  (fun e v h' => h' = vH c0 c1 c2 c3 R N p o u hd ov T ∧ ((e = .exit 1 ∧ hasAll S n = true ∧ ∃ x6 x12, v = V17 n n x6 (.v (.bool false)) x12) ∨ (e = .ret ∧ hasAll S n = false ∧ getO v [] (.var 5) = .v (.bool false)))) n (m := K) (v := v) (h := vH c0 c1 c2 c3 R N p o u hd ov T) hK ⟨hv, rfl, rfl⟩ (by
   rintro j v h' hj ⟨rfl, rfl, hall⟩
   by_cases hjn : j < n
   ·have hlt := lt_t hjn
    have hw := wrap_succ hjn (by have : maxLen = 9223372036854775807 := rfl; omega)
    have lk := fun T => v_lk1 (c0 := c0) (c1 := c1) (c2 := c2) (c3 := c3) (N := N) (p := p) (o := o) (u := u) (hd := hd) (ov := ov) (T := T) hR (j : Int)
    cases hs : S.contains (j : Int) with
    | true =>
     rw [hs] at lk
     refine ⟨.normal, V17 n ((j + 1 : Nat) : Int) (.v (.int .i64 j)) (.v (.bool true)) (.v (.bool false)), _, ?_, hjn, rfl, rfl, by
      have : hasAll S (j + 1) = (hasAll S j && S.contains (j : Int)) := by simp [hasAll, List.range_succ]
      rw [this, hall, hs]; rfl⟩
     simp only [V17, c15_10, c15_5, c15_6, c15_7, c15_9, hlt, hw, v_ld4, lk, e_lookup, Q0, Q1, Q2, Q3, Q4, Q5, Q6, Q7, Q8, Q9, Q10, Q11, Q12, Q13, Q14, Q15, Q16, Q17, Q18, Q19, Q20, Q21, Q22, Q23, Q24, Q25, Q26, Q27, Q28, Q29, Q30, Q31, Q32, Q33, Q35, Q36, Q37, Q38, Q39, Q40, Q41, Q42, Q43, Q44, Q45, Q46, Q47, Q48, Q49, Q50, Q51, Q52, Q53, Q54, Q55, Q56, Q57, Q58, Q59, Q60, Q61, Q62, Q63, Q64, Q65, Q66, Q67, Q68, Q69, Q70, Q71, Q72, Q73, Q99, Q100, Q101, Q102, Q103, Q74, Q75, Q77, Q78, Q79, Q80, Q81, Q82, Q83, Q84, clr, List.length_nil, List.length_cons, List.getElem?_cons_zero, List.getElem?_cons_succ, Nat.reduceAdd, Nat.zero_add, Nat.add_zero, Nat.reduceLeDiff, Nat.reduceSub, ↓reduceIte, List.drop_succ_cons, List.drop_zero, List.take_succ_cons, List.take_zero, Bool.false_eq_true, List.nil_append, List.cons_append, Bool.not_true, Bool.not_false, cond_true, cond_false, bne, Q85, Q86, Q87, Q88, Q89, Q90, Q91, Q92, Q93, Q94, Q95, Q96, Q97, Q98, Q110, Q111, Q116, Q117, Q118, Q119, Q120, Q121, Q122, Q123, Option.map_some, Option.map_none]
    | false =>
     rw [hs] at lk
     refine ⟨.ret, [.ptr 3 0, .junk, .junk, .junk, .junk, .v (.bool false), .v (.int .i64 j), .junk, .junk, .v (.int .i64 n), .v (.int .i64 j), .v (.bool true), .v (.bool true), .junk, .junk, .junk, .junk], vH c0 c1 c2 c3 R N p o u hd ov T, ?_, rfl, .inr ⟨rfl, ?_, rfl⟩⟩
     ·simp only [V17, c15_10, c15_5, c15_6, c15_7, c15_8, hlt, v_ld4, lk, e_lookup, Q0, Q1, Q2, Q3, Q4, Q5, Q6, Q7, Q8, Q9, Q10, Q11, Q12, Q13, Q14, Q15, Q16, Q17, Q18, Q19, Q20, Q21, Q22, Q23, Q24, Q25, Q26, Q27, Q28, Q29, Q30, Q31, Q32, Q33, Q35, Q36, Q37, Q38, Q39, Q40, Q41, Q42, Q43, Q44, Q45, Q46, Q47, Q48, Q49, Q50, Q51, Q52, Q53, Q54, Q55, Q56, Q57, Q58, Q59, Q60, Q61, Q62, Q63, Q64, Q65, Q66, Q67, Q68, Q69, Q70, Q71, Q72, Q73, Q99, Q100, Q101, Q102, Q103, Q74, Q75, Q77, Q78, Q79, Q80, Q81, Q82, Q83, Q84, clr, List.length_nil, List.length_cons, List.getElem?_cons_zero, List.getElem?_cons_succ, Nat.reduceAdd, Nat.zero_add, Nat.add_zero, Nat.reduceLeDiff, Nat.reduceSub, ↓reduceIte, List.drop_succ_cons, List.drop_zero, List.take_succ_cons, List.take_zero, Bool.false_eq_true, List.nil_append, List.cons_append, Bool.not_true, Bool.not_false, cond_true, cond_false, bne, Q85, Q86, Q87, Q88, Q89, Q90, Q91, Q92, Q93, Q94, Q95, Q96, Q97, Q98, Q110, Q111, Q116, Q117, Q118, Q119, Q120, Q121, Q122, Q123, Option.map_some, Option.map_none]
     ·simp only [hasAll, List.all_eq_false]
      exact ⟨j, by simpa using hjn, by simpa using hs⟩
   ·have hje : j = n := by omega
    subst hje
    have hlt := lt_f (n := j)
    refine ⟨.exit 1, V17 j j .junk (.v (.bool false)) .junk, vH c0 c1 c2 c3 R N p o u hd ov T, ?_, rfl, .inl ⟨rfl, hall, _, _, rfl⟩⟩
    simp only [V17, c15_10, c15_5, hlt, Q0, Q1, Q2, Q3, Q4, Q5, Q6, Q7, Q8, Q9, Q10, Q11, Q12, Q13, Q14, Q15, Q16, Q17, Q18, Q19, Q20, Q21, Q22, Q23, Q24, Q25, Q26, Q27, Q28, Q29, Q30, Q31, Q32, Q33, Q35, Q36, Q37, Q38, Q39, Q40, Q41, Q42, Q43, Q44, Q45, Q46, Q47, Q48, Q49, Q50, Q51, Q52, Q53, Q54, Q55, Q56, Q57, Q58, Q59, Q60, Q61, Q62, Q63, Q64, Q65, Q66, Q67, Q68, Q69, Q70, Q71, Q72, Q73, Q99, Q100, Q101, Q102, Q103, Q74, Q75, Q77, Q78, Q79, Q80, Q81, Q82, Q83, Q84, clr, List.length_nil, List.length_cons, List.getElem?_cons_zero, List.getElem?_cons_succ, Nat.reduceAdd, Nat.zero_add, Nat.add_zero, Nat.reduceLeDiff, Nat.reduceSub, ↓reduceIte, List.drop_succ_cons, List.drop_zero, List.take_succ_cons, List.take_zero, Bool.false_eq_true, List.nil_append, List.cons_append, Bool.not_true, Bool.not_false, cond_true, cond_false, bne, Q85, Q86, Q87, Q88, Q89, Q90, Q91, Q92, Q93, Q94, Q95, Q96, Q97, Q98, Q110, Q111, Q116, Q117, Q118, Q119, Q120, Q121, Q122, Q123, Option.map_some, Option.map_none])
 obtain ⟨rfl, g3 | g3⟩ := g3
 ·obtain ⟨rfl, h1, x6, x12, rfl⟩ := g3
  exact .inl ⟨h1, x6, x12, g1⟩
 ·obtain ⟨rfl, h1, h2⟩ := g3
  exact .inr ⟨h1, v', g1, h2⟩
theorem whole_ok (h0 : c0.below1 0 = true) (h3 : c3.below1 0 = true) (hT : T.all (AO.below 0) = true) (hR : Seen .i64 R S) (hN : Seen .i64 N Q) {r k : Int} (hr : 0 ≤ r ∧ r ≤ 4) (hk : 0 ≤ k ∧ k ≤ 4) (i : In) :
  callW F 15 [.ptr 3 0, .v (.int .i64 r), .v (.int .i64 k), inV i] (vH c0 c1 c2 c3 R N p o u hd ov T) = some (.v (.bool (wholeT S Q c2 hd r k i)), vH c0 c1 c2 c3 R N p o u hd ov T) := by
 refine callW_own (c := c15) rfl rfl 100 ?_
 have cl := (show (inV i).cl = some (inC i) from rfl)
 have key : ∀ vars : List AV, getO vars [] (.var 5) = .v (.bool (wholeT S Q c2 hd r k i)) → leave (T.length + 4) c15 (some (.ret, vars, vH c0 c1 c2 c3 R N p o u hd ov (T ++ [.box 41 (inC i)]))) = some (.v (.bool (wholeT S Q c2 hd r k i)), vH c0 c1 c2 c3 R N p o u hd ov T) :=
  fun vars hx => v_leave h0 h3 hT rfl hx
 rw [v_app, v_len]
 have lk1 := fun T => v_lk1 (c0 := c0) (c1 := c1) (c2 := c2) (c3 := c3) (N := N) (p := p) (o := o) (u := u) (hd := hd) (ov := ov) (T := T) hR i.b
 have lk2 := fun T => v_lk2 (c0 := c0) (c1 := c1) (c2 := c2) (c3 := c3) (R := R) (p := p) (o := o) (u := u) (hd := hd) (ov := ov) (T := T) hN i.b
 have hr5 : r = 0 ∨ r = 1 ∨ r = 2 ∨ r = 3 ∨ r = 4 := by omega
 have hk5 : k = 0 ∨ k = 1 ∨ k = 2 ∨ k = 3 ∨ k = 4 := by omega
 have eb : ∀ (h : List AO) (a b : Bool), eqNil h .bool (.v (.bool a)) (.v (.bool b)) = some (a == b) := fun _ _ _ => rfl
 by_cases hcall : r = 4 ∧ i.op = 21
 ·obtain ⟨rfl, hop⟩ := hcall
  have e : wholeT S Q c2 hd 4 k i = callsT S hd i.n := by simp [wholeT, hop]
  rw [e] at key ⊢
  have ho : (i.op == 21) = true := by simp [hop]
  cases h1 : decide (i.n < 0) with
  | true =>
   have e2 : callsT S hd i.n = false := by simp [callsT, h1]
   rw [e2] at key ⊢
   simp only [c15, start, List.replicate, c15_0, c15_1, c15_2, c15_3, cl, v_bx, v_ld9, v_l0, v_l4, ho, h1, Q122, Int.reduceBEq, Q0, Q1, Q2, Q3, Q4, Q5, Q6, Q7, Q8, Q9, Q10, Q11, Q12, Q13, Q14, Q15, Q16, Q17, Q18, Q19, Q20, Q21, Q22, Q23, Q24, Q25, Q26, Q27, Q28, Q29, Q30, Q31, Q32, Q33, Q35, Q36, Q37, Q38, Q39, Q40, Q41, Q42, Q43, Q44, Q45, Q46, Q47, Q48, Q49, Q50, Q51, Q52, Q53, Q54, Q55, Q56, Q57, Q58, Q59, Q60, Q61, Q62, Q63, Q64, Q65, Q66, Q67, Q68, Q69, Q70, Q71, Q72, Q73, Q99, Q100, Q101, Q102, Q103, Q74, Q75, Q77, Q78, Q79, Q80, Q81, Q82, Q83, Q84, clr, List.length_nil, List.length_cons, List.getElem?_cons_zero, List.getElem?_cons_succ, Nat.reduceAdd, Nat.zero_add, Nat.add_zero, Nat.reduceLeDiff, Nat.reduceSub, ↓reduceIte, List.drop_succ_cons, List.drop_zero, List.take_succ_cons, List.take_zero, Bool.false_eq_true, List.nil_append, List.cons_append, Bool.not_true, Bool.not_false, cond_true, cond_false, bne, Q85, Q86, Q87, Q88, Q89, Q90, Q91, Q92, Q93, Q94, Q95, Q96, Q97, Q98, Q110, Q111, Q116, Q117, Q118, Q119, Q120, Q121, Q122, Q123, Option.map_some, Option.map_none]
   exact key _ rfl
  | false =>
   cases h2 : decide (i.n > 16) with
   | true =>
    have e2 : callsT S hd i.n = false := by simp [callsT, h2]
    rw [e2] at key ⊢
    simp only [c15, start, List.replicate, c15_0, c15_1, c15_2, c15_3, cl, v_bx, v_ld9, v_l0, v_l4, ho, h1, h2, Q122, Int.reduceBEq, Q0, Q1, Q2, Q3, Q4, Q5, Q6, Q7, Q8, Q9, Q10, Q11, Q12, Q13, Q14, Q15, Q16, Q17, Q18, Q19, Q20, Q21, Q22, Q23, Q24, Q25, Q26, Q27, Q28, Q29, Q30, Q31, Q32, Q33, Q35, Q36, Q37, Q38, Q39, Q40, Q41, Q42, Q43, Q44, Q45, Q46, Q47, Q48, Q49, Q50, Q51, Q52, Q53, Q54, Q55, Q56, Q57, Q58, Q59, Q60, Q61, Q62, Q63, Q64, Q65, Q66, Q67, Q68, Q69, Q70, Q71, Q72, Q73, Q99, Q100, Q101, Q102, Q103, Q74, Q75, Q77, Q78, Q79, Q80, Q81, Q82, Q83, Q84, clr, List.length_nil, List.length_cons, List.getElem?_cons_zero, List.getElem?_cons_succ, Nat.reduceAdd, Nat.zero_add, Nat.add_zero, Nat.reduceLeDiff, Nat.reduceSub, ↓reduceIte, List.drop_succ_cons, List.drop_zero, List.take_succ_cons, List.take_zero, Bool.false_eq_true, List.nil_append, List.cons_append, Bool.not_true, Bool.not_false, cond_true, cond_false, bne, Q85, Q86, Q87, Q88, Q89, Q90, Q91, Q92, Q93, Q94, Q95, Q96, Q97, Q98, Q110, Q111, Q116, Q117, Q118, Q119, Q120, Q121, Q122, Q123, Option.map_some, Option.map_none]
    exact key _ rfl
   | false =>
    cases h3' : (hd && decide (i.n > 0)) with
    | true =>
     have e2 : callsT S hd i.n = false := by simp only [callsT, h3', Bool.or_true, Bool.not_true, Bool.false_and]
     rw [e2] at key ⊢
     simp only [Bool.and_eq_true] at h3'
     obtain ⟨rfl, h4⟩ := h3'
     simp only [c15, start, List.replicate, c15_0, c15_1, c15_2, c15_3, cl, v_bx, v_ld9, v_l0, v_l4, ho, h1, h2, h4, Q122, Int.reduceBEq, Q0, Q1, Q2, Q3, Q4, Q5, Q6, Q7, Q8, Q9, Q10, Q11, Q12, Q13, Q14, Q15, Q16, Q17, Q18, Q19, Q20, Q21, Q22, Q23, Q24, Q25, Q26, Q27, Q28, Q29, Q30, Q31, Q32, Q33, Q35, Q36, Q37, Q38, Q39, Q40, Q41, Q42, Q43, Q44, Q45, Q46, Q47, Q48, Q49, Q50, Q51, Q52, Q53, Q54, Q55, Q56, Q57, Q58, Q59, Q60, Q61, Q62, Q63, Q64, Q65, Q66, Q67, Q68, Q69, Q70, Q71, Q72, Q73, Q99, Q100, Q101, Q102, Q103, Q74, Q75, Q77, Q78, Q79, Q80, Q81, Q82, Q83, Q84, clr, List.length_nil, List.length_cons, List.getElem?_cons_zero, List.getElem?_cons_succ, Nat.reduceAdd, Nat.zero_add, Nat.add_zero, Nat.reduceLeDiff, Nat.reduceSub, ↓reduceIte, List.drop_succ_cons, List.drop_zero, List.take_succ_cons, List.take_zero, Bool.false_eq_true, List.nil_append, List.cons_append, Bool.not_true, Bool.not_false, cond_true, cond_false, bne, Q85, Q86, Q87, Q88, Q89, Q90, Q91, Q92, Q93, Q94, Q95, Q96, Q97, Q98, Q110, Q111, Q116, Q117, Q118, Q119, Q120, Q121, Q122, Q123, Option.map_some, Option.map_none]
     exact key _ rfl
    | false =>
     have e2 : callsT S hd i.n = hasAll S i.n.toNat := by simp only [callsT, h1, h2, h3', Bool.or_false, Bool.not_false, Bool.true_and]
     rw [e2] at key ⊢
     have hn0 : ¬ i.n < 0 := by simpa using h1
     have hn1 : ¬ i.n > 16 := by simpa using h2
     obtain ⟨n, hnn⟩ := Int.eq_ofNat_of_zero_le (show 0 ≤ i.n by omega)
     rw [hnn, Int.toNat_natCast] at key ⊢
     rw [hnn] at h1 h2 h3'
     have vl4 : ∀ T, Q76 (vH c0 c1 c2 c3 R N p o u hd ov (T ++ [.box 41 (inC i)])) false 1 (.ptr (T.length + 4) 4) = some (.v (.int .i64 n)) := fun T => by rw [v_l4, hnn]
     have lp := fun v hv => calls_loop (K := 100) (c0 := c0) (c1 := c1) (c2 := c2) (c3 := c3) (N := N) (p := p) (o := o) (u := u) (hd := hd) (ov := ov) (T := T ++ [.box 41 (inC i)]) hR (n := n) (by omega) (by omega) v hv
     have pre : ∀ rest : CC, exec (callW F) 100 (.seq (.region [] [] c15_0) (.seq (.block 0 (.seq (.region [] [] c15_1) (.cond (.var 7) (.seq (.seq (.region [] [] c15_2) (.cond (.var 8) (.seq (.region [] [] c15_3) .ret) .skip)) (.seq (.region [] [] c15_4) (.block 1 (.loop K17 [] c15_10)))) rest))) (.seq (.region [] [] c15_22) .ret))) (start c15 [.ptr 3 0, .v (.int .i64 4), .v (.int .i64 k), inV i]) (vH c0 c1 c2 c3 R N p o u hd ov T) =
       thn (callW F) 100 (.seq (.region [] [] c15_22) .ret) (blk 0 (blk 1 (loopN (exec (callW F) 100 c15_10) K17 100 [.ptr 3 0, .v (.int .i64 4), .v (.int .i64 k), inV i, .ptr (T.length + 4) 0, .v (.bool false), .v undef, .v (.bool true), .v (.bool false), .v (.int .i64 n), .v (.int .i64 0), .v undef, .v undef, .v undef, .v undef, .v undef, .v undef] (vH c0 c1 c2 c3 R N p o u hd ov (T ++ [.box 41 (inC i)]))))) := by
      intro rest
      rw [show start c15 [.ptr 3 0, .v (.int .i64 4), .v (.int .i64 k), inV i] = [.ptr 3 0, .v (.int .i64 4), .v (.int .i64 k), inV i, .v undef, .v undef, .v undef, .v undef, .v undef, .v undef, .v undef, .v undef, .v undef, .v undef, .v undef, .v undef, .v undef] from rfl]
      generalize c15_10 = bb
      cases hd <;> simp only [Bool.true_and, Bool.false_and] at h3' <;>
       simp only [c15_0, c15_1, c15_2, c15_4, cl, v_bx, v_ld9, v_l0, vl4, ho, h1, h2, h3', Q122, Int.reduceBEq, Q0, Q1, Q2, Q3, Q4, Q5, Q6, Q7, Q8, Q9, Q10, Q11, Q12, Q13, Q14, Q15, Q16, Q17, Q18, Q19, Q20, Q21, Q22, Q23, Q24, Q25, Q26, Q27, Q28, Q29, Q30, Q31, Q32, Q33, Q35, Q36, Q37, Q38, Q39, Q40, Q41, Q42, Q43, Q44, Q45, Q46, Q47, Q48, Q49, Q50, Q51, Q52, Q53, Q54, Q55, Q56, Q57, Q58, Q59, Q60, Q61, Q62, Q63, Q64, Q65, Q66, Q67, Q68, Q69, Q70, Q71, Q72, Q73, Q99, Q100, Q101, Q102, Q103, Q74, Q75, Q77, Q78, Q79, Q80, Q81, Q82, Q83, Q84, clr, List.length_nil, List.length_cons, List.getElem?_cons_zero, List.getElem?_cons_succ, Nat.reduceAdd, Nat.zero_add, Nat.add_zero, Nat.reduceLeDiff, Nat.reduceSub, ↓reduceIte, List.drop_succ_cons, List.drop_zero, List.take_succ_cons, List.take_zero, Bool.false_eq_true, List.nil_append, List.cons_append, Bool.not_true, Bool.not_false, cond_true, cond_false, bne, Q85, Q86, Q87, Q88, Q89, Q90, Q91, Q92, Q93, Q94, Q95, Q96, Q97, Q98, Q110, Q111, Q116, Q117, Q118, Q119, Q120, Q121, Q122, Q123, Option.map_some, Option.map_none]
     obtain ⟨rest, hrest⟩ : ∃ rest, c15.body = (.seq (.region [] [] c15_0) (.seq (.block 0 (.seq (.region [] [] c15_1) (.cond (.var 7) (.seq (.seq (.region [] [] c15_2) (.cond (.var 8) (.seq (.region [] [] c15_3) .ret) .skip)) (.seq (.region [] [] c15_4) (.block 1 (.loop K17 [] c15_10)))) rest))) (.seq (.region [] [] c15_22) .ret))) := ⟨_, rfl⟩
     rw [hrest, pre]
     rcases lp [.ptr 3 0, .v (.int .i64 4), .v (.int .i64 k), inV i, .ptr (T.length + 4) 0, .v (.bool false), .v undef, .v (.bool true), .v (.bool false), .v (.int .i64 n), .v (.int .i64 0), .v undef, .v undef, .v undef, .v undef, .v undef, .v undef] rfl with ⟨g1, x6, x12, g2⟩ | ⟨g1, v', g2, g3⟩
     ·rw [g1] at key ⊢
      rw [g2]
      simp only [V17, c15_22, Q0, Q1, Q2, Q3, Q4, Q5, Q6, Q7, Q8, Q9, Q10, Q11, Q12, Q13, Q14, Q15, Q16, Q17, Q18, Q19, Q20, Q21, Q22, Q23, Q24, Q25, Q26, Q27, Q28, Q29, Q30, Q31, Q32, Q33, Q35, Q36, Q37, Q38, Q39, Q40, Q41, Q42, Q43, Q44, Q45, Q46, Q47, Q48, Q49, Q50, Q51, Q52, Q53, Q54, Q55, Q56, Q57, Q58, Q59, Q60, Q61, Q62, Q63, Q64, Q65, Q66, Q67, Q68, Q69, Q70, Q71, Q72, Q73, Q99, Q100, Q101, Q102, Q103, Q74, Q75, Q77, Q78, Q79, Q80, Q81, Q82, Q83, Q84, clr, List.length_nil, List.length_cons, List.getElem?_cons_zero, List.getElem?_cons_succ, Nat.reduceAdd, Nat.zero_add, Nat.add_zero, Nat.reduceLeDiff, Nat.reduceSub, ↓reduceIte, List.drop_succ_cons, List.drop_zero, List.take_succ_cons, List.take_zero, Bool.false_eq_true, List.nil_append, List.cons_append, Bool.not_true, Bool.not_false, cond_true, cond_false, bne, Q85, Q86, Q87, Q88, Q89, Q90, Q91, Q92, Q93, Q94, Q95, Q96, Q97, Q98, Q110, Q111, Q116, Q117, Q118, Q119, Q120, Q121, Q122, Q123, Option.map_some, Option.map_none]
      exact key _ rfl
     ·rw [g1] at key ⊢
      rw [g2]
      simp only [Q0, Q1, Q2, Q3, Q4, Q5, Q6, Q7, Q8, Q9, Q10, Q11, Q12, Q13, Q14, Q15, Q16, Q17, Q18, Q19, Q20, Q21, Q22, Q23, Q24, Q25, Q26, Q27, Q28, Q29, Q30, Q31, Q32, Q33, Q35, Q36, Q37, Q38, Q39, Q40, Q41, Q42, Q43, Q44, Q45, Q46, Q47, Q48, Q49, Q50, Q51, Q52, Q53, Q54, Q55, Q56, Q57, Q58, Q59, Q60, Q61, Q62, Q63, Q64, Q65, Q66, Q67, Q68, Q69, Q70, Q71, Q72, Q73, Q99, Q100, Q101, Q102, Q103, Q74, Q75, Q77, Q78, Q79, Q80, Q81, Q82, Q83, Q84, clr, List.length_nil, List.length_cons, List.getElem?_cons_zero, List.getElem?_cons_succ, Nat.reduceAdd, Nat.zero_add, Nat.add_zero, Nat.reduceLeDiff, Nat.reduceSub, ↓reduceIte, List.drop_succ_cons, List.drop_zero, List.take_succ_cons, List.take_zero, Bool.false_eq_true, List.nil_append, List.cons_append, Bool.not_true, Bool.not_false, cond_true, cond_false, bne, Q85, Q86, Q87, Q88, Q89, Q90, Q91, Q92, Q93, Q94, Q95, Q96, Q97, Q98, Q110, Q111, Q116, Q117, Q118, Q119, Q120, Q121, Q122, Q123, Option.map_some, Option.map_none]
      exact key _ g3
 ·have ho : ((r == 4) && (i.op == 21)) = false := by
   cases h1 : (r == 4) with
   | false => rfl
   | true =>
    have : r = 4 := by simpa using h1
    have : i.op ≠ 21 := fun e => hcall ⟨this, e⟩
    simpa using this
  have e : wholeT S Q c2 hd r k i = (if r = 4 ∨ k = 2 ∨ k = 3 then true
   else if k = 0 then decide (i.b ≥ 0) && (decide (i.b < c2) && !(Q.contains i.b))
   else if k = 1 then Q.contains i.b
   else if r = 0 ∨ r = 2 then decide (i.n ≥ 1) && decide (i.n ≤ 16)
   else decide (i.b ≥ 16) && (S.contains i.b == (r == 3))) := by simp only [wholeT, if_neg hcall]
  rw [e] at key ⊢
  clear e hcall
  have hop : r = 4 → (i.op == 21) = false := fun h => by subst h; simpa using ho
  clear ho
  have nop : ∀ z : Int, 0 + 2 = 2 := fun _ => rfl
  by_cases h4 : r = 4
  ·subst h4
   have ho := hop rfl
   simp only [c15, start, List.replicate, c15_0, c15_1, c15_11, c15_12, c15_13, c15_14, c15_15, c15_16, c15_17, c15_18, c15_19, c15_20, c15_21, c15_22, cl, v_bx, v_ld2, v_ld4, v_ld5, v_ld9, v_l0, v_l2, v_l4, e_lookup, Q122, eb, Int.reduceBEq, Q0, Q1, Q2, Q3, Q4, Q5, Q6, Q7, Q8, Q9, Q10, Q11, Q12, Q13, Q14, Q15, Q16, Q17, Q18, Q19, Q20, Q21, Q22, Q23, Q24, Q25, Q26, Q27, Q28, Q29, Q30, Q31, Q32, Q33, Q35, Q36, Q37, Q38, Q39, Q40, Q41, Q42, Q43, Q44, Q45, Q46, Q47, Q48, Q49, Q50, Q51, Q52, Q53, Q54, Q55, Q56, Q57, Q58, Q59, Q60, Q61, Q62, Q63, Q64, Q65, Q66, Q67, Q68, Q69, Q70, Q71, Q72, Q73, Q99, Q100, Q101, Q102, Q103, Q74, Q75, Q77, Q78, Q79, Q80, Q81, Q82, Q83, Q84, clr, List.length_nil, List.length_cons, List.getElem?_cons_zero, List.getElem?_cons_succ, Nat.reduceAdd, Nat.zero_add, Nat.add_zero, Nat.reduceLeDiff, Nat.reduceSub, ↓reduceIte, List.drop_succ_cons, List.drop_zero, List.take_succ_cons, List.take_zero, Bool.false_eq_true, List.nil_append, List.cons_append, Bool.not_true, Bool.not_false, cond_true, cond_false, bne, Q85, Q86, Q87, Q88, Q89, Q90, Q91, Q92, Q93, Q94, Q95, Q96, Q97, Q98, Q110, Q111, Q116, Q117, Q118, Q119, Q120, Q121, Q122, Q123, Option.map_some, Option.map_none, ho]
   exact key _ rfl
  ·have hr4 : r = 0 ∨ r = 1 ∨ r = 2 ∨ r = 3 := by omega
   clear hop h4 hr5
   rcases hk5 with rfl | rfl | rfl | rfl | rfl
   ·cases b1 : decide (i.b ≥ 0) <;> cases b2 : decide (i.b < c2) <;> cases b3 : Q.contains i.b <;> rw [b1, b2, b3] at key <;> rw [b3] at lk2 <;>
     rcases hr4 with rfl | rfl | rfl | rfl <;>
     simp only [c15, start, List.replicate, c15_0, c15_1, c15_11, c15_12, c15_13, c15_14, c15_15, c15_16, c15_17, c15_18, c15_19, c15_20, c15_21, c15_22, cl, v_bx, v_ld2, v_ld4, v_ld5, v_ld9, v_l0, v_l2, v_l4, e_lookup, Q122, eb, Int.reduceBEq, Q0, Q1, Q2, Q3, Q4, Q5, Q6, Q7, Q8, Q9, Q10, Q11, Q12, Q13, Q14, Q15, Q16, Q17, Q18, Q19, Q20, Q21, Q22, Q23, Q24, Q25, Q26, Q27, Q28, Q29, Q30, Q31, Q32, Q33, Q35, Q36, Q37, Q38, Q39, Q40, Q41, Q42, Q43, Q44, Q45, Q46, Q47, Q48, Q49, Q50, Q51, Q52, Q53, Q54, Q55, Q56, Q57, Q58, Q59, Q60, Q61, Q62, Q63, Q64, Q65, Q66, Q67, Q68, Q69, Q70, Q71, Q72, Q73, Q99, Q100, Q101, Q102, Q103, Q74, Q75, Q77, Q78, Q79, Q80, Q81, Q82, Q83, Q84, clr, List.length_nil, List.length_cons, List.getElem?_cons_zero, List.getElem?_cons_succ, Nat.reduceAdd, Nat.zero_add, Nat.add_zero, Nat.reduceLeDiff, Nat.reduceSub, ↓reduceIte, List.drop_succ_cons, List.drop_zero, List.take_succ_cons, List.take_zero, Bool.false_eq_true, List.nil_append, List.cons_append, Bool.not_true, Bool.not_false, cond_true, cond_false, bne, Q85, Q86, Q87, Q88, Q89, Q90, Q91, Q92, Q93, Q94, Q95, Q96, Q97, Q98, Q110, Q111, Q116, Q117, Q118, Q119, Q120, Q121, Q122, Q123, Option.map_some, Option.map_none, b1, b2, lk2] <;> exact key _ rfl
   ·rcases hr4 with rfl | rfl | rfl | rfl <;>
     simp only [c15, start, List.replicate, c15_0, c15_1, c15_11, c15_12, c15_13, c15_14, c15_15, c15_16, c15_17, c15_18, c15_19, c15_20, c15_21, c15_22, cl, v_bx, v_ld2, v_ld4, v_ld5, v_ld9, v_l0, v_l2, v_l4, e_lookup, Q122, eb, Int.reduceBEq, Q0, Q1, Q2, Q3, Q4, Q5, Q6, Q7, Q8, Q9, Q10, Q11, Q12, Q13, Q14, Q15, Q16, Q17, Q18, Q19, Q20, Q21, Q22, Q23, Q24, Q25, Q26, Q27, Q28, Q29, Q30, Q31, Q32, Q33, Q35, Q36, Q37, Q38, Q39, Q40, Q41, Q42, Q43, Q44, Q45, Q46, Q47, Q48, Q49, Q50, Q51, Q52, Q53, Q54, Q55, Q56, Q57, Q58, Q59, Q60, Q61, Q62, Q63, Q64, Q65, Q66, Q67, Q68, Q69, Q70, Q71, Q72, Q73, Q99, Q100, Q101, Q102, Q103, Q74, Q75, Q77, Q78, Q79, Q80, Q81, Q82, Q83, Q84, clr, List.length_nil, List.length_cons, List.getElem?_cons_zero, List.getElem?_cons_succ, Nat.reduceAdd, Nat.zero_add, Nat.add_zero, Nat.reduceLeDiff, Nat.reduceSub, ↓reduceIte, List.drop_succ_cons, List.drop_zero, List.take_succ_cons, List.take_zero, Bool.false_eq_true, List.nil_append, List.cons_append, Bool.not_true, Bool.not_false, cond_true, cond_false, bne, Q85, Q86, Q87, Q88, Q89, Q90, Q91, Q92, Q93, Q94, Q95, Q96, Q97, Q98, Q110, Q111, Q116, Q117, Q118, Q119, Q120, Q121, Q122, Q123, Option.map_some, Option.map_none, lk2] <;> exact key _ rfl
   ·rcases hr4 with rfl | rfl | rfl | rfl <;>
     simp only [c15, start, List.replicate, c15_0, c15_1, c15_11, c15_12, c15_13, c15_14, c15_15, c15_16, c15_17, c15_18, c15_19, c15_20, c15_21, c15_22, cl, v_bx, v_ld2, v_ld4, v_ld5, v_ld9, v_l0, v_l2, v_l4, e_lookup, Q122, eb, Int.reduceBEq, Q0, Q1, Q2, Q3, Q4, Q5, Q6, Q7, Q8, Q9, Q10, Q11, Q12, Q13, Q14, Q15, Q16, Q17, Q18, Q19, Q20, Q21, Q22, Q23, Q24, Q25, Q26, Q27, Q28, Q29, Q30, Q31, Q32, Q33, Q35, Q36, Q37, Q38, Q39, Q40, Q41, Q42, Q43, Q44, Q45, Q46, Q47, Q48, Q49, Q50, Q51, Q52, Q53, Q54, Q55, Q56, Q57, Q58, Q59, Q60, Q61, Q62, Q63, Q64, Q65, Q66, Q67, Q68, Q69, Q70, Q71, Q72, Q73, Q99, Q100, Q101, Q102, Q103, Q74, Q75, Q77, Q78, Q79, Q80, Q81, Q82, Q83, Q84, clr, List.length_nil, List.length_cons, List.getElem?_cons_zero, List.getElem?_cons_succ, Nat.reduceAdd, Nat.zero_add, Nat.add_zero, Nat.reduceLeDiff, Nat.reduceSub, ↓reduceIte, List.drop_succ_cons, List.drop_zero, List.take_succ_cons, List.take_zero, Bool.false_eq_true, List.nil_append, List.cons_append, Bool.not_true, Bool.not_false, cond_true, cond_false, bne, Q85, Q86, Q87, Q88, Q89, Q90, Q91, Q92, Q93, Q94, Q95, Q96, Q97, Q98, Q110, Q111, Q116, Q117, Q118, Q119, Q120, Q121, Q122, Q123, Option.map_some, Option.map_none] <;> exact key _ rfl
   ·rcases hr4 with rfl | rfl | rfl | rfl <;>
     simp only [c15, start, List.replicate, c15_0, c15_1, c15_11, c15_12, c15_13, c15_14, c15_15, c15_16, c15_17, c15_18, c15_19, c15_20, c15_21, c15_22, cl, v_bx, v_ld2, v_ld4, v_ld5, v_ld9, v_l0, v_l2, v_l4, e_lookup, Q122, eb, Int.reduceBEq, Q0, Q1, Q2, Q3, Q4, Q5, Q6, Q7, Q8, Q9, Q10, Q11, Q12, Q13, Q14, Q15, Q16, Q17, Q18, Q19, Q20, Q21, Q22, Q23, Q24, Q25, Q26, Q27, Q28, Q29, Q30, Q31, Q32, Q33, Q35, Q36, Q37, Q38, Q39, Q40, Q41, Q42, Q43, Q44, Q45, Q46, Q47, Q48, Q49, Q50, Q51, Q52, Q53, Q54, Q55, Q56, Q57, Q58, Q59, Q60, Q61, Q62, Q63, Q64, Q65, Q66, Q67, Q68, Q69, Q70, Q71, Q72, Q73, Q99, Q100, Q101, Q102, Q103, Q74, Q75, Q77, Q78, Q79, Q80, Q81, Q82, Q83, Q84, clr, List.length_nil, List.length_cons, List.getElem?_cons_zero, List.getElem?_cons_succ, Nat.reduceAdd, Nat.zero_add, Nat.add_zero, Nat.reduceLeDiff, Nat.reduceSub, ↓reduceIte, List.drop_succ_cons, List.drop_zero, List.take_succ_cons, List.take_zero, Bool.false_eq_true, List.nil_append, List.cons_append, Bool.not_true, Bool.not_false, cond_true, cond_false, bne, Q85, Q86, Q87, Q88, Q89, Q90, Q91, Q92, Q93, Q94, Q95, Q96, Q97, Q98, Q110, Q111, Q116, Q117, Q118, Q119, Q120, Q121, Q122, Q123, Option.map_some, Option.map_none] <;> exact key _ rfl
   ·cases b1 : decide (i.n ≥ 1) <;> cases b2 : decide (i.n ≤ 16) <;> cases b3 : decide (i.b ≥ 16) <;> rw [b1, b2, b3] at key <;>
     rcases hr4 with rfl | rfl | rfl | rfl <;>
     simp only [c15, start, List.replicate, c15_0, c15_1, c15_11, c15_12, c15_13, c15_14, c15_15, c15_16, c15_17, c15_18, c15_19, c15_20, c15_21, c15_22, cl, v_bx, v_ld2, v_ld4, v_ld5, v_ld9, v_l0, v_l2, v_l4, e_lookup, Q122, eb, Int.reduceBEq, Q0, Q1, Q2, Q3, Q4, Q5, Q6, Q7, Q8, Q9, Q10, Q11, Q12, Q13, Q14, Q15, Q16, Q17, Q18, Q19, Q20, Q21, Q22, Q23, Q24, Q25, Q26, Q27, Q28, Q29, Q30, Q31, Q32, Q33, Q35, Q36, Q37, Q38, Q39, Q40, Q41, Q42, Q43, Q44, Q45, Q46, Q47, Q48, Q49, Q50, Q51, Q52, Q53, Q54, Q55, Q56, Q57, Q58, Q59, Q60, Q61, Q62, Q63, Q64, Q65, Q66, Q67, Q68, Q69, Q70, Q71, Q72, Q73, Q99, Q100, Q101, Q102, Q103, Q74, Q75, Q77, Q78, Q79, Q80, Q81, Q82, Q83, Q84, clr, List.length_nil, List.length_cons, List.getElem?_cons_zero, List.getElem?_cons_succ, Nat.reduceAdd, Nat.zero_add, Nat.add_zero, Nat.reduceLeDiff, Nat.reduceSub, ↓reduceIte, List.drop_succ_cons, List.drop_zero, List.take_succ_cons, List.take_zero, Bool.false_eq_true, List.nil_append, List.cons_append, Bool.not_true, Bool.not_false, cond_true, cond_false, bne, Q85, Q86, Q87, Q88, Q89, Q90, Q91, Q92, Q93, Q94, Q95, Q96, Q97, Q98, Q110, Q111, Q116, Q117, Q118, Q119, Q120, Q121, Q122, Q123, Option.map_some, Option.map_none, b1, b2, b3, lk1] <;> exact key _ rfl
end
end Go.AE.YtghgbbiklkpbnaaDoor.Chk
end

section
namespace Go.AE.YtghgbbiklkpbnaaDoor.Chk
open Go Go.AE Go.Proofs.YtghgbbiklkpbnaaDoor

def headOff (s : VS) (r : Int) (i : In) : VS := if s.head && (r == 2 || (r == 4 && !(i.op == 23))) then { s with head := false, regs := [] } else s
def doesT (s : VS) (r k : Int) (i : In) : VS :=
 let s := headOff s r i
 if r = 4 then
  let s := if i.op = 21 then { s with regs := [] } else s
  { s with over := i.op == 23 }
 else
  let s := if k = 0 then { s with known := i.b :: s.known } else if k = 4 ∧ r = 1 then { s with regs := i.b :: s.regs } else if k = 4 ∧ r ≠ 3 then { s with parts := i.n, of := r, under := i.a } else s
  if r = 2 ∧ k ≠ 4 then { s with regs := i.a :: s.regs }
  else if r = 1 ∨ r = 3 then
   let s := { s with parts := IntKind.i64.wrap (s.parts - 1) }
   if s.parts = 0 ∧ r = 3 then { s with regs := s.under :: s.regs } else s
  else s
def vS (c0 : AV) (c1 c2 : Int) (c3 : AV) (R N : MR) (s : VS) (T : List AO) : List AO := vH c0 c1 c2 c3 R N s.parts s.of s.under s.head s.over T
section
variable {c0 c3 : AV} {c1 c2 : Int} {R N : MR} {T : List AO}
theorem v_leave0 {p o u : Int} {hd ov : Bool} {c : CFun} {vars : List AV} {l : List AO} (h0 : c0.below1 0 = true) (h3 : c3.below1 0 = true) (hT : T.all (AO.below 0) = true) (hc : c.res = []) (x : AXit) (hx : x = .ret ∨ x = .normal) : leave (T.length + 4) c (some (x, vars, vH c0 c1 c2 c3 R N p o u hd ov (T ++ l))) = some (.tup [], vH c0 c1 c2 c3 R N p o u hd ov T) := by
 have h := (show vH c0 c1 c2 c3 R N p o u hd ov (T ++ l) = (vH c0 c1 c2 c3 R N p o u hd ov T) ++ l from rfl)
 have e : leave (T.length + 4) c (some (x, vars, vH c0 c1 c2 c3 R N p o u hd ov T ++ l)) = leave (T.length + 4) c (some (.ret, vars, vH c0 c1 c2 c3 R N p o u hd ov T ++ l)) := by
  rcases hx with rfl | rfl
  ·rfl
  ·simp only [leave]
 rw [h, e, leave_own (B := T.length + 4) rfl (v_below h0 h3 hT), hc]
 rfl
theorem does_ok (h0 : c0.below1 0 = true) (h3 : c3.below1 0 = true) (hT : T.all (AO.below 0) = true) {s : VS} (hR : Seen .i64 R s.regs) (hN : Seen .i64 N s.known) {r k : Int} (hr : 0 ≤ r ∧ r ≤ 4) (hk : 0 ≤ k ∧ k ≤ 4) (i : In) :
  ∃ R' N', Seen .i64 R' (doesT s r k i).regs ∧ Seen .i64 N' (doesT s r k i).known ∧ callW F 16 [.ptr 3 0, .v (.int .i64 r), .v (.int .i64 k), inV i] (vS c0 c1 c2 c3 R N s T) = some (.tup [], vS c0 c1 c2 c3 R' N' (doesT s r k i) T) := by
 have cl := (show (inV i).cl = some (inC i) from rfl)
 obtain ⟨S, Q, p, o, u, hd, ov⟩ := s
 have hr5 : r = 0 ∨ r = 1 ∨ r = 2 ∨ r = 3 ∨ r = 4 := by omega
 have hk5 : k = 0 ∨ k = 1 ∨ k = 2 ∨ k = 3 ∨ k = 4 := by omega
 have ap : ∀ x1 x2 x3 l, apB (.ptr 3 0 :: x1 :: x2 :: x3 :: .ptr (T.length + 4) 0 :: l) (some 0, 4) = true := fun _ _ _ _ => by simp [apB]
 simp only [vS] at *
 by_cases h4 : r = 4
 ·subst h4
  cases hd with
  | false =>
   by_cases h21 : i.op = 21
   ·have b21 : (i.op == 21) = true := by simp [h21]
    have b23 : (i.op == 23) = false := by simp [h21]
    rw [show doesT ⟨S, Q, p, o, u, false, ov⟩ 4 k i = ⟨[], Q, p, o, u, false, false⟩ from by simp [doesT, headOff, h21]]
    refine ⟨clrR R, N, Seen.clr _, hN, callW_own (c := c16) rfl rfl 0 ?_⟩
    rw [v_app, v_len]
    simp only [c16, start, List.replicate, c16_0, c16_1, c16_2, c16_3, c16_4, c16_5, c16_6, c16_7, c16_8, c16_9, c16_10, c16_11, c16_12, c16_13, c16_14, c16_15, c16_16, c16_17, c16_18, c16_19, c16_20, cl, v_bx, v_ld4, v_ld5, v_ld6, v_ld8, v_ld9, v_l0, v_l1, v_l2, v_l4, v_st6, v_st7, v_st8, v_st9, v_st10, v_clr, v_up1, v_up2, ap, x_region_ap, apR_t, e_clrmap, e_mapupd, Q122, Int.reduceBEq, Q0, Q1, Q2, Q3, Q4, Q5, Q6, Q7, Q8, Q9, Q10, Q11, Q12, Q13, Q14, Q15, Q16, Q17, Q18, Q19, Q20, Q21, Q22, Q23, Q24, Q25, Q26, Q27, Q28, Q29, Q30, Q31, Q32, Q33, Q35, Q36, Q37, Q38, Q39, Q40, Q41, Q42, Q43, Q44, Q45, Q46, Q47, Q48, Q49, Q50, Q51, Q52, Q53, Q54, Q55, Q56, Q57, Q58, Q59, Q60, Q61, Q62, Q63, Q64, Q65, Q66, Q67, Q68, Q69, Q70, Q71, Q72, Q73, Q99, Q100, Q101, Q102, Q103, Q74, Q75, Q77, Q78, Q79, Q80, Q81, Q82, Q83, Q84, clr, List.length_nil, List.length_cons, List.getElem?_cons_zero, List.getElem?_cons_succ, Nat.reduceAdd, Nat.zero_add, Nat.add_zero, Nat.reduceLeDiff, Nat.reduceSub, ↓reduceIte, List.drop_succ_cons, List.drop_zero, List.take_succ_cons, List.take_zero, Bool.false_eq_true, List.nil_append, List.cons_append, Bool.not_true, Bool.not_false, cond_true, cond_false, bne, Q85, Q86, Q87, Q88, Q89, Q90, Q91, Q92, Q93, Q94, Q95, Q96, Q97, Q98, Q110, Q111, Q116, Q117, Q118, Q119, Q120, Q121, Q122, Q123, Option.map_some, Option.map_none, b21, b23]
    exact v_leave0 h0 h3 hT rfl _ (by first | exact .inr rfl | exact .inl rfl)
   ·have b21 : (i.op == 21) = false := by simp [h21]
    cases b23 : (i.op == 23) with
    | true =>
     rw [show doesT ⟨S, Q, p, o, u, false, ov⟩ 4 k i = ⟨S, Q, p, o, u, false, true⟩ from by simp [doesT, headOff, h21, b23]]
     refine ⟨R, N, hR, hN, callW_own (c := c16) rfl rfl 0 ?_⟩
     rw [v_app, v_len]
     simp only [c16, start, List.replicate, c16_0, c16_1, c16_2, c16_3, c16_4, c16_5, c16_6, c16_7, c16_8, c16_9, c16_10, c16_11, c16_12, c16_13, c16_14, c16_15, c16_16, c16_17, c16_18, c16_19, c16_20, cl, v_bx, v_ld4, v_ld5, v_ld6, v_ld8, v_ld9, v_l0, v_l1, v_l2, v_l4, v_st6, v_st7, v_st8, v_st9, v_st10, v_clr, v_up1, v_up2, ap, x_region_ap, apR_t, e_clrmap, e_mapupd, Q122, Int.reduceBEq, Q0, Q1, Q2, Q3, Q4, Q5, Q6, Q7, Q8, Q9, Q10, Q11, Q12, Q13, Q14, Q15, Q16, Q17, Q18, Q19, Q20, Q21, Q22, Q23, Q24, Q25, Q26, Q27, Q28, Q29, Q30, Q31, Q32, Q33, Q35, Q36, Q37, Q38, Q39, Q40, Q41, Q42, Q43, Q44, Q45, Q46, Q47, Q48, Q49, Q50, Q51, Q52, Q53, Q54, Q55, Q56, Q57, Q58, Q59, Q60, Q61, Q62, Q63, Q64, Q65, Q66, Q67, Q68, Q69, Q70, Q71, Q72, Q73, Q99, Q100, Q101, Q102, Q103, Q74, Q75, Q77, Q78, Q79, Q80, Q81, Q82, Q83, Q84, clr, List.length_nil, List.length_cons, List.getElem?_cons_zero, List.getElem?_cons_succ, Nat.reduceAdd, Nat.zero_add, Nat.add_zero, Nat.reduceLeDiff, Nat.reduceSub, ↓reduceIte, List.drop_succ_cons, List.drop_zero, List.take_succ_cons, List.take_zero, Bool.false_eq_true, List.nil_append, List.cons_append, Bool.not_true, Bool.not_false, cond_true, cond_false, bne, Q85, Q86, Q87, Q88, Q89, Q90, Q91, Q92, Q93, Q94, Q95, Q96, Q97, Q98, Q110, Q111, Q116, Q117, Q118, Q119, Q120, Q121, Q122, Q123, Option.map_some, Option.map_none, b21, b23]
     exact v_leave0 h0 h3 hT rfl _ (by first | exact .inr rfl | exact .inl rfl)
    | false =>
     rw [show doesT ⟨S, Q, p, o, u, false, ov⟩ 4 k i = ⟨S, Q, p, o, u, false, false⟩ from by simp [doesT, headOff, h21, b23]]
     refine ⟨R, N, hR, hN, callW_own (c := c16) rfl rfl 0 ?_⟩
     rw [v_app, v_len]
     simp only [c16, start, List.replicate, c16_0, c16_1, c16_2, c16_3, c16_4, c16_5, c16_6, c16_7, c16_8, c16_9, c16_10, c16_11, c16_12, c16_13, c16_14, c16_15, c16_16, c16_17, c16_18, c16_19, c16_20, cl, v_bx, v_ld4, v_ld5, v_ld6, v_ld8, v_ld9, v_l0, v_l1, v_l2, v_l4, v_st6, v_st7, v_st8, v_st9, v_st10, v_clr, v_up1, v_up2, ap, x_region_ap, apR_t, e_clrmap, e_mapupd, Q122, Int.reduceBEq, Q0, Q1, Q2, Q3, Q4, Q5, Q6, Q7, Q8, Q9, Q10, Q11, Q12, Q13, Q14, Q15, Q16, Q17, Q18, Q19, Q20, Q21, Q22, Q23, Q24, Q25, Q26, Q27, Q28, Q29, Q30, Q31, Q32, Q33, Q35, Q36, Q37, Q38, Q39, Q40, Q41, Q42, Q43, Q44, Q45, Q46, Q47, Q48, Q49, Q50, Q51, Q52, Q53, Q54, Q55, Q56, Q57, Q58, Q59, Q60, Q61, Q62, Q63, Q64, Q65, Q66, Q67, Q68, Q69, Q70, Q71, Q72, Q73, Q99, Q100, Q101, Q102, Q103, Q74, Q75, Q77, Q78, Q79, Q80, Q81, Q82, Q83, Q84, clr, List.length_nil, List.length_cons, List.getElem?_cons_zero, List.getElem?_cons_succ, Nat.reduceAdd, Nat.zero_add, Nat.add_zero, Nat.reduceLeDiff, Nat.reduceSub, ↓reduceIte, List.drop_succ_cons, List.drop_zero, List.take_succ_cons, List.take_zero, Bool.false_eq_true, List.nil_append, List.cons_append, Bool.not_true, Bool.not_false, cond_true, cond_false, bne, Q85, Q86, Q87, Q88, Q89, Q90, Q91, Q92, Q93, Q94, Q95, Q96, Q97, Q98, Q110, Q111, Q116, Q117, Q118, Q119, Q120, Q121, Q122, Q123, Option.map_some, Option.map_none, b21, b23]
     exact v_leave0 h0 h3 hT rfl _ (by first | exact .inr rfl | exact .inl rfl)
  | true =>
   by_cases h21 : i.op = 21
   ·have b21 : (i.op == 21) = true := by simp [h21]
    have b23 : (i.op == 23) = false := by simp [h21]
    rw [show doesT ⟨S, Q, p, o, u, true, ov⟩ 4 k i = ⟨[], Q, p, o, u, false, false⟩ from by simp [doesT, headOff, h21]]
    refine ⟨clrR R, N, Seen.clr _, hN, callW_own (c := c16) rfl rfl 0 ?_⟩
    rw [v_app, v_len]
    simp only [c16, start, List.replicate, c16_0, c16_1, c16_2, c16_3, c16_4, c16_5, c16_6, c16_7, c16_8, c16_9, c16_10, c16_11, c16_12, c16_13, c16_14, c16_15, c16_16, c16_17, c16_18, c16_19, c16_20, cl, v_bx, v_ld4, v_ld5, v_ld6, v_ld8, v_ld9, v_l0, v_l1, v_l2, v_l4, v_st6, v_st7, v_st8, v_st9, v_st10, v_clr, v_up1, v_up2, ap, x_region_ap, apR_t, e_clrmap, e_mapupd, Q122, Int.reduceBEq, Q0, Q1, Q2, Q3, Q4, Q5, Q6, Q7, Q8, Q9, Q10, Q11, Q12, Q13, Q14, Q15, Q16, Q17, Q18, Q19, Q20, Q21, Q22, Q23, Q24, Q25, Q26, Q27, Q28, Q29, Q30, Q31, Q32, Q33, Q35, Q36, Q37, Q38, Q39, Q40, Q41, Q42, Q43, Q44, Q45, Q46, Q47, Q48, Q49, Q50, Q51, Q52, Q53, Q54, Q55, Q56, Q57, Q58, Q59, Q60, Q61, Q62, Q63, Q64, Q65, Q66, Q67, Q68, Q69, Q70, Q71, Q72, Q73, Q99, Q100, Q101, Q102, Q103, Q74, Q75, Q77, Q78, Q79, Q80, Q81, Q82, Q83, Q84, clr, List.length_nil, List.length_cons, List.getElem?_cons_zero, List.getElem?_cons_succ, Nat.reduceAdd, Nat.zero_add, Nat.add_zero, Nat.reduceLeDiff, Nat.reduceSub, ↓reduceIte, List.drop_succ_cons, List.drop_zero, List.take_succ_cons, List.take_zero, Bool.false_eq_true, List.nil_append, List.cons_append, Bool.not_true, Bool.not_false, cond_true, cond_false, bne, Q85, Q86, Q87, Q88, Q89, Q90, Q91, Q92, Q93, Q94, Q95, Q96, Q97, Q98, Q110, Q111, Q116, Q117, Q118, Q119, Q120, Q121, Q122, Q123, Option.map_some, Option.map_none, b21, b23]
    exact v_leave0 h0 h3 hT rfl _ (by first | exact .inr rfl | exact .inl rfl)
   ·have b21 : (i.op == 21) = false := by simp [h21]
    cases b23 : (i.op == 23) with
    | true =>
     rw [show doesT ⟨S, Q, p, o, u, true, ov⟩ 4 k i = ⟨S, Q, p, o, u, true, true⟩ from by simp [doesT, headOff, h21, b23]]
     refine ⟨R, N, hR, hN, callW_own (c := c16) rfl rfl 0 ?_⟩
     rw [v_app, v_len]
     simp only [c16, start, List.replicate, c16_0, c16_1, c16_2, c16_3, c16_4, c16_5, c16_6, c16_7, c16_8, c16_9, c16_10, c16_11, c16_12, c16_13, c16_14, c16_15, c16_16, c16_17, c16_18, c16_19, c16_20, cl, v_bx, v_ld4, v_ld5, v_ld6, v_ld8, v_ld9, v_l0, v_l1, v_l2, v_l4, v_st6, v_st7, v_st8, v_st9, v_st10, v_clr, v_up1, v_up2, ap, x_region_ap, apR_t, e_clrmap, e_mapupd, Q122, Int.reduceBEq, Q0, Q1, Q2, Q3, Q4, Q5, Q6, Q7, Q8, Q9, Q10, Q11, Q12, Q13, Q14, Q15, Q16, Q17, Q18, Q19, Q20, Q21, Q22, Q23, Q24, Q25, Q26, Q27, Q28, Q29, Q30, Q31, Q32, Q33, Q35, Q36, Q37, Q38, Q39, Q40, Q41, Q42, Q43, Q44, Q45, Q46, Q47, Q48, Q49, Q50, Q51, Q52, Q53, Q54, Q55, Q56, Q57, Q58, Q59, Q60, Q61, Q62, Q63, Q64, Q65, Q66, Q67, Q68, Q69, Q70, Q71, Q72, Q73, Q99, Q100, Q101, Q102, Q103, Q74, Q75, Q77, Q78, Q79, Q80, Q81, Q82, Q83, Q84, clr, List.length_nil, List.length_cons, List.getElem?_cons_zero, List.getElem?_cons_succ, Nat.reduceAdd, Nat.zero_add, Nat.add_zero, Nat.reduceLeDiff, Nat.reduceSub, ↓reduceIte, List.drop_succ_cons, List.drop_zero, List.take_succ_cons, List.take_zero, Bool.false_eq_true, List.nil_append, List.cons_append, Bool.not_true, Bool.not_false, cond_true, cond_false, bne, Q85, Q86, Q87, Q88, Q89, Q90, Q91, Q92, Q93, Q94, Q95, Q96, Q97, Q98, Q110, Q111, Q116, Q117, Q118, Q119, Q120, Q121, Q122, Q123, Option.map_some, Option.map_none, b21, b23]
     exact v_leave0 h0 h3 hT rfl _ (by first | exact .inr rfl | exact .inl rfl)
    | false =>
     rw [show doesT ⟨S, Q, p, o, u, true, ov⟩ 4 k i = ⟨[], Q, p, o, u, false, false⟩ from by simp [doesT, headOff, h21, b23]]
     refine ⟨clrR R, N, Seen.clr _, hN, callW_own (c := c16) rfl rfl 0 ?_⟩
     rw [v_app, v_len]
     simp only [c16, start, List.replicate, c16_0, c16_1, c16_2, c16_3, c16_4, c16_5, c16_6, c16_7, c16_8, c16_9, c16_10, c16_11, c16_12, c16_13, c16_14, c16_15, c16_16, c16_17, c16_18, c16_19, c16_20, cl, v_bx, v_ld4, v_ld5, v_ld6, v_ld8, v_ld9, v_l0, v_l1, v_l2, v_l4, v_st6, v_st7, v_st8, v_st9, v_st10, v_clr, v_up1, v_up2, ap, x_region_ap, apR_t, e_clrmap, e_mapupd, Q122, Int.reduceBEq, Q0, Q1, Q2, Q3, Q4, Q5, Q6, Q7, Q8, Q9, Q10, Q11, Q12, Q13, Q14, Q15, Q16, Q17, Q18, Q19, Q20, Q21, Q22, Q23, Q24, Q25, Q26, Q27, Q28, Q29, Q30, Q31, Q32, Q33, Q35, Q36, Q37, Q38, Q39, Q40, Q41, Q42, Q43, Q44, Q45, Q46, Q47, Q48, Q49, Q50, Q51, Q52, Q53, Q54, Q55, Q56, Q57, Q58, Q59, Q60, Q61, Q62, Q63, Q64, Q65, Q66, Q67, Q68, Q69, Q70, Q71, Q72, Q73, Q99, Q100, Q101, Q102, Q103, Q74, Q75, Q77, Q78, Q79, Q80, Q81, Q82, Q83, Q84, clr, List.length_nil, List.length_cons, List.getElem?_cons_zero, List.getElem?_cons_succ, Nat.reduceAdd, Nat.zero_add, Nat.add_zero, Nat.reduceLeDiff, Nat.reduceSub, ↓reduceIte, List.drop_succ_cons, List.drop_zero, List.take_succ_cons, List.take_zero, Bool.false_eq_true, List.nil_append, List.cons_append, Bool.not_true, Bool.not_false, cond_true, cond_false, bne, Q85, Q86, Q87, Q88, Q89, Q90, Q91, Q92, Q93, Q94, Q95, Q96, Q97, Q98, Q110, Q111, Q116, Q117, Q118, Q119, Q120, Q121, Q122, Q123, Option.map_some, Option.map_none, b21, b23]
     exact v_leave0 h0 h3 hT rfl _ (by first | exact .inr rfl | exact .inl rfl)
 ·have hr4 : r = 0 ∨ r = 1 ∨ r = 2 ∨ r = 3 := by omega
  clear h4 hr5 hr
  rcases hr4 with rfl | rfl | rfl | rfl
  ·rcases hk5 with rfl | rfl | rfl | rfl | rfl
   ·cases hd with
    | false =>
     rw [show doesT ⟨S, Q, p, o, u, false, ov⟩ 0 0 i = ⟨S, (i.b :: Q), p, o, u, false, ov⟩ from by simp [doesT, headOff]]
     refine ⟨R, (upd (.int .i64 i.b) (.v (.bool true)) N), hR, hN.add _, callW_own (c := c16) rfl rfl 0 ?_⟩
     rw [v_app, v_len]
     simp only [c16, start, List.replicate, c16_0, c16_1, c16_2, c16_3, c16_4, c16_5, c16_6, c16_7, c16_8, c16_9, c16_10, c16_11, c16_12, c16_13, c16_14, c16_15, c16_16, c16_17, c16_18, c16_19, c16_20, cl, v_bx, v_ld4, v_ld5, v_ld6, v_ld8, v_ld9, v_l0, v_l1, v_l2, v_l4, v_st6, v_st7, v_st8, v_st9, v_st10, v_clr, v_up1, v_up2, ap, x_region_ap, apR_t, e_clrmap, e_mapupd, Q122, Int.reduceBEq, Q0, Q1, Q2, Q3, Q4, Q5, Q6, Q7, Q8, Q9, Q10, Q11, Q12, Q13, Q14, Q15, Q16, Q17, Q18, Q19, Q20, Q21, Q22, Q23, Q24, Q25, Q26, Q27, Q28, Q29, Q30, Q31, Q32, Q33, Q35, Q36, Q37, Q38, Q39, Q40, Q41, Q42, Q43, Q44, Q45, Q46, Q47, Q48, Q49, Q50, Q51, Q52, Q53, Q54, Q55, Q56, Q57, Q58, Q59, Q60, Q61, Q62, Q63, Q64, Q65, Q66, Q67, Q68, Q69, Q70, Q71, Q72, Q73, Q99, Q100, Q101, Q102, Q103, Q74, Q75, Q77, Q78, Q79, Q80, Q81, Q82, Q83, Q84, clr, List.length_nil, List.length_cons, List.getElem?_cons_zero, List.getElem?_cons_succ, Nat.reduceAdd, Nat.zero_add, Nat.add_zero, Nat.reduceLeDiff, Nat.reduceSub, ↓reduceIte, List.drop_succ_cons, List.drop_zero, List.take_succ_cons, List.take_zero, Bool.false_eq_true, List.nil_append, List.cons_append, Bool.not_true, Bool.not_false, cond_true, cond_false, bne, Q85, Q86, Q87, Q88, Q89, Q90, Q91, Q92, Q93, Q94, Q95, Q96, Q97, Q98, Q110, Q111, Q116, Q117, Q118, Q119, Q120, Q121, Q122, Q123, Option.map_some, Option.map_none]
     exact v_leave0 h0 h3 hT rfl _ (by first | exact .inr rfl | exact .inl rfl)
    | true =>
     rw [show doesT ⟨S, Q, p, o, u, true, ov⟩ 0 0 i = ⟨S, (i.b :: Q), p, o, u, true, ov⟩ from by simp [doesT, headOff]]
     refine ⟨R, (upd (.int .i64 i.b) (.v (.bool true)) N), hR, hN.add _, callW_own (c := c16) rfl rfl 0 ?_⟩
     rw [v_app, v_len]
     simp only [c16, start, List.replicate, c16_0, c16_1, c16_2, c16_3, c16_4, c16_5, c16_6, c16_7, c16_8, c16_9, c16_10, c16_11, c16_12, c16_13, c16_14, c16_15, c16_16, c16_17, c16_18, c16_19, c16_20, cl, v_bx, v_ld4, v_ld5, v_ld6, v_ld8, v_ld9, v_l0, v_l1, v_l2, v_l4, v_st6, v_st7, v_st8, v_st9, v_st10, v_clr, v_up1, v_up2, ap, x_region_ap, apR_t, e_clrmap, e_mapupd, Q122, Int.reduceBEq, Q0, Q1, Q2, Q3, Q4, Q5, Q6, Q7, Q8, Q9, Q10, Q11, Q12, Q13, Q14, Q15, Q16, Q17, Q18, Q19, Q20, Q21, Q22, Q23, Q24, Q25, Q26, Q27, Q28, Q29, Q30, Q31, Q32, Q33, Q35, Q36, Q37, Q38, Q39, Q40, Q41, Q42, Q43, Q44, Q45, Q46, Q47, Q48, Q49, Q50, Q51, Q52, Q53, Q54, Q55, Q56, Q57, Q58, Q59, Q60, Q61, Q62, Q63, Q64, Q65, Q66, Q67, Q68, Q69, Q70, Q71, Q72, Q73, Q99, Q100, Q101, Q102, Q103, Q74, Q75, Q77, Q78, Q79, Q80, Q81, Q82, Q83, Q84, clr, List.length_nil, List.length_cons, List.getElem?_cons_zero, List.getElem?_cons_succ, Nat.reduceAdd, Nat.zero_add, Nat.add_zero, Nat.reduceLeDiff, Nat.reduceSub, ↓reduceIte, List.drop_succ_cons, List.drop_zero, List.take_succ_cons, List.take_zero, Bool.false_eq_true, List.nil_append, List.cons_append, Bool.not_true, Bool.not_false, cond_true, cond_false, bne, Q85, Q86, Q87, Q88, Q89, Q90, Q91, Q92, Q93, Q94, Q95, Q96, Q97, Q98, Q110, Q111, Q116, Q117, Q118, Q119, Q120, Q121, Q122, Q123, Option.map_some, Option.map_none]
     exact v_leave0 h0 h3 hT rfl _ (by first | exact .inr rfl | exact .inl rfl)
   ·cases hd with
    | false =>
     rw [show doesT ⟨S, Q, p, o, u, false, ov⟩ 0 1 i = ⟨S, Q, p, o, u, false, ov⟩ from by simp [doesT, headOff]]
     refine ⟨R, N, hR, hN, callW_own (c := c16) rfl rfl 0 ?_⟩
     rw [v_app, v_len]
     simp only [c16, start, List.replicate, c16_0, c16_1, c16_2, c16_3, c16_4, c16_5, c16_6, c16_7, c16_8, c16_9, c16_10, c16_11, c16_12, c16_13, c16_14, c16_15, c16_16, c16_17, c16_18, c16_19, c16_20, cl, v_bx, v_ld4, v_ld5, v_ld6, v_ld8, v_ld9, v_l0, v_l1, v_l2, v_l4, v_st6, v_st7, v_st8, v_st9, v_st10, v_clr, v_up1, v_up2, ap, x_region_ap, apR_t, e_clrmap, e_mapupd, Q122, Int.reduceBEq, Q0, Q1, Q2, Q3, Q4, Q5, Q6, Q7, Q8, Q9, Q10, Q11, Q12, Q13, Q14, Q15, Q16, Q17, Q18, Q19, Q20, Q21, Q22, Q23, Q24, Q25, Q26, Q27, Q28, Q29, Q30, Q31, Q32, Q33, Q35, Q36, Q37, Q38, Q39, Q40, Q41, Q42, Q43, Q44, Q45, Q46, Q47, Q48, Q49, Q50, Q51, Q52, Q53, Q54, Q55, Q56, Q57, Q58, Q59, Q60, Q61, Q62, Q63, Q64, Q65, Q66, Q67, Q68, Q69, Q70, Q71, Q72, Q73, Q99, Q100, Q101, Q102, Q103, Q74, Q75, Q77, Q78, Q79, Q80, Q81, Q82, Q83, Q84, clr, List.length_nil, List.length_cons, List.getElem?_cons_zero, List.getElem?_cons_succ, Nat.reduceAdd, Nat.zero_add, Nat.add_zero, Nat.reduceLeDiff, Nat.reduceSub, ↓reduceIte, List.drop_succ_cons, List.drop_zero, List.take_succ_cons, List.take_zero, Bool.false_eq_true, List.nil_append, List.cons_append, Bool.not_true, Bool.not_false, cond_true, cond_false, bne, Q85, Q86, Q87, Q88, Q89, Q90, Q91, Q92, Q93, Q94, Q95, Q96, Q97, Q98, Q110, Q111, Q116, Q117, Q118, Q119, Q120, Q121, Q122, Q123, Option.map_some, Option.map_none]
     exact v_leave0 h0 h3 hT rfl _ (by first | exact .inr rfl | exact .inl rfl)
    | true =>
     rw [show doesT ⟨S, Q, p, o, u, true, ov⟩ 0 1 i = ⟨S, Q, p, o, u, true, ov⟩ from by simp [doesT, headOff]]
     refine ⟨R, N, hR, hN, callW_own (c := c16) rfl rfl 0 ?_⟩
     rw [v_app, v_len]
     simp only [c16, start, List.replicate, c16_0, c16_1, c16_2, c16_3, c16_4, c16_5, c16_6, c16_7, c16_8, c16_9, c16_10, c16_11, c16_12, c16_13, c16_14, c16_15, c16_16, c16_17, c16_18, c16_19, c16_20, cl, v_bx, v_ld4, v_ld5, v_ld6, v_ld8, v_ld9, v_l0, v_l1, v_l2, v_l4, v_st6, v_st7, v_st8, v_st9, v_st10, v_clr, v_up1, v_up2, ap, x_region_ap, apR_t, e_clrmap, e_mapupd, Q122, Int.reduceBEq, Q0, Q1, Q2, Q3, Q4, Q5, Q6, Q7, Q8, Q9, Q10, Q11, Q12, Q13, Q14, Q15, Q16, Q17, Q18, Q19, Q20, Q21, Q22, Q23, Q24, Q25, Q26, Q27, Q28, Q29, Q30, Q31, Q32, Q33, Q35, Q36, Q37, Q38, Q39, Q40, Q41, Q42, Q43, Q44, Q45, Q46, Q47, Q48, Q49, Q50, Q51, Q52, Q53, Q54, Q55, Q56, Q57, Q58, Q59, Q60, Q61, Q62, Q63, Q64, Q65, Q66, Q67, Q68, Q69, Q70, Q71, Q72, Q73, Q99, Q100, Q101, Q102, Q103, Q74, Q75, Q77, Q78, Q79, Q80, Q81, Q82, Q83, Q84, clr, List.length_nil, List.length_cons, List.getElem?_cons_zero, List.getElem?_cons_succ, Nat.reduceAdd, Nat.zero_add, Nat.add_zero, Nat.reduceLeDiff, Nat.reduceSub, ↓reduceIte, List.drop_succ_cons, List.drop_zero, List.take_succ_cons, List.take_zero, Bool.false_eq_true, List.nil_append, List.cons_append, Bool.not_true, Bool.not_false, cond_true, cond_false, bne, Q85, Q86, Q87, Q88, Q89, Q90, Q91, Q92, Q93, Q94, Q95, Q96, Q97, Q98, Q110, Q111, Q116, Q117, Q118, Q119, Q120, Q121, Q122, Q123, Option.map_some, Option.map_none]
     exact v_leave0 h0 h3 hT rfl _ (by first | exact .inr rfl | exact .inl rfl)
   ·cases hd with
    | false =>
     rw [show doesT ⟨S, Q, p, o, u, false, ov⟩ 0 2 i = ⟨S, Q, p, o, u, false, ov⟩ from by simp [doesT, headOff]]
     refine ⟨R, N, hR, hN, callW_own (c := c16) rfl rfl 0 ?_⟩
     rw [v_app, v_len]
     simp only [c16, start, List.replicate, c16_0, c16_1, c16_2, c16_3, c16_4, c16_5, c16_6, c16_7, c16_8, c16_9, c16_10, c16_11, c16_12, c16_13, c16_14, c16_15, c16_16, c16_17, c16_18, c16_19, c16_20, cl, v_bx, v_ld4, v_ld5, v_ld6, v_ld8, v_ld9, v_l0, v_l1, v_l2, v_l4, v_st6, v_st7, v_st8, v_st9, v_st10, v_clr, v_up1, v_up2, ap, x_region_ap, apR_t, e_clrmap, e_mapupd, Q122, Int.reduceBEq, Q0, Q1, Q2, Q3, Q4, Q5, Q6, Q7, Q8, Q9, Q10, Q11, Q12, Q13, Q14, Q15, Q16, Q17, Q18, Q19, Q20, Q21, Q22, Q23, Q24, Q25, Q26, Q27, Q28, Q29, Q30, Q31, Q32, Q33, Q35, Q36, Q37, Q38, Q39, Q40, Q41, Q42, Q43, Q44, Q45, Q46, Q47, Q48, Q49, Q50, Q51, Q52, Q53, Q54, Q55, Q56, Q57, Q58, Q59, Q60, Q61, Q62, Q63, Q64, Q65, Q66, Q67, Q68, Q69, Q70, Q71, Q72, Q73, Q99, Q100, Q101, Q102, Q103, Q74, Q75, Q77, Q78, Q79, Q80, Q81, Q82, Q83, Q84, clr, List.length_nil, List.length_cons, List.getElem?_cons_zero, List.getElem?_cons_succ, Nat.reduceAdd, Nat.zero_add, Nat.add_zero, Nat.reduceLeDiff, Nat.reduceSub, ↓reduceIte, List.drop_succ_cons, List.drop_zero, List.take_succ_cons, List.take_zero, Bool.false_eq_true, List.nil_append, List.cons_append, Bool.not_true, Bool.not_false, cond_true, cond_false, bne, Q85, Q86, Q87, Q88, Q89, Q90, Q91, Q92, Q93, Q94, Q95, Q96, Q97, Q98, Q110, Q111, Q116, Q117, Q118, Q119, Q120, Q121, Q122, Q123, Option.map_some, Option.map_none]
     exact v_leave0 h0 h3 hT rfl _ (by first | exact .inr rfl | exact .inl rfl)
    | true =>
     rw [show doesT ⟨S, Q, p, o, u, true, ov⟩ 0 2 i = ⟨S, Q, p, o, u, true, ov⟩ from by simp [doesT, headOff]]
     refine ⟨R, N, hR, hN, callW_own (c := c16) rfl rfl 0 ?_⟩
     rw [v_app, v_len]
     simp only [c16, start, List.replicate, c16_0, c16_1, c16_2, c16_3, c16_4, c16_5, c16_6, c16_7, c16_8, c16_9, c16_10, c16_11, c16_12, c16_13, c16_14, c16_15, c16_16, c16_17, c16_18, c16_19, c16_20, cl, v_bx, v_ld4, v_ld5, v_ld6, v_ld8, v_ld9, v_l0, v_l1, v_l2, v_l4, v_st6, v_st7, v_st8, v_st9, v_st10, v_clr, v_up1, v_up2, ap, x_region_ap, apR_t, e_clrmap, e_mapupd, Q122, Int.reduceBEq, Q0, Q1, Q2, Q3, Q4, Q5, Q6, Q7, Q8, Q9, Q10, Q11, Q12, Q13, Q14, Q15, Q16, Q17, Q18, Q19, Q20, Q21, Q22, Q23, Q24, Q25, Q26, Q27, Q28, Q29, Q30, Q31, Q32, Q33, Q35, Q36, Q37, Q38, Q39, Q40, Q41, Q42, Q43, Q44, Q45, Q46, Q47, Q48, Q49, Q50, Q51, Q52, Q53, Q54, Q55, Q56, Q57, Q58, Q59, Q60, Q61, Q62, Q63, Q64, Q65, Q66, Q67, Q68, Q69, Q70, Q71, Q72, Q73, Q99, Q100, Q101, Q102, Q103, Q74, Q75, Q77, Q78, Q79, Q80, Q81, Q82, Q83, Q84, clr, List.length_nil, List.length_cons, List.getElem?_cons_zero, List.getElem?_cons_succ, Nat.reduceAdd, Nat.zero_add, Nat.add_zero, Nat.reduceLeDiff, Nat.reduceSub, ↓reduceIte, List.drop_succ_cons, List.drop_zero, List.take_succ_cons, List.take_zero, Bool.false_eq_true, List.nil_append, List.cons_append, Bool.not_true, Bool.not_false, cond_true, cond_false, bne, Q85, Q86, Q87, Q88, Q89, Q90, Q91, Q92, Q93, Q94, Q95, Q96, Q97, Q98, Q110, Q111, Q116, Q117, Q118, Q119, Q120, Q121, Q122, Q123, Option.map_some, Option.map_none]
     exact v_leave0 h0 h3 hT rfl _ (by first | exact .inr rfl | exact .inl rfl)
   ·cases hd with
    | false =>
     rw [show doesT ⟨S, Q, p, o, u, false, ov⟩ 0 3 i = ⟨S, Q, p, o, u, false, ov⟩ from by simp [doesT, headOff]]
     refine ⟨R, N, hR, hN, callW_own (c := c16) rfl rfl 0 ?_⟩
     rw [v_app, v_len]
     simp only [c16, start, List.replicate, c16_0, c16_1, c16_2, c16_3, c16_4, c16_5, c16_6, c16_7, c16_8, c16_9, c16_10, c16_11, c16_12, c16_13, c16_14, c16_15, c16_16, c16_17, c16_18, c16_19, c16_20, cl, v_bx, v_ld4, v_ld5, v_ld6, v_ld8, v_ld9, v_l0, v_l1, v_l2, v_l4, v_st6, v_st7, v_st8, v_st9, v_st10, v_clr, v_up1, v_up2, ap, x_region_ap, apR_t, e_clrmap, e_mapupd, Q122, Int.reduceBEq, Q0, Q1, Q2, Q3, Q4, Q5, Q6, Q7, Q8, Q9, Q10, Q11, Q12, Q13, Q14, Q15, Q16, Q17, Q18, Q19, Q20, Q21, Q22, Q23, Q24, Q25, Q26, Q27, Q28, Q29, Q30, Q31, Q32, Q33, Q35, Q36, Q37, Q38, Q39, Q40, Q41, Q42, Q43, Q44, Q45, Q46, Q47, Q48, Q49, Q50, Q51, Q52, Q53, Q54, Q55, Q56, Q57, Q58, Q59, Q60, Q61, Q62, Q63, Q64, Q65, Q66, Q67, Q68, Q69, Q70, Q71, Q72, Q73, Q99, Q100, Q101, Q102, Q103, Q74, Q75, Q77, Q78, Q79, Q80, Q81, Q82, Q83, Q84, clr, List.length_nil, List.length_cons, List.getElem?_cons_zero, List.getElem?_cons_succ, Nat.reduceAdd, Nat.zero_add, Nat.add_zero, Nat.reduceLeDiff, Nat.reduceSub, ↓reduceIte, List.drop_succ_cons, List.drop_zero, List.take_succ_cons, List.take_zero, Bool.false_eq_true, List.nil_append, List.cons_append, Bool.not_true, Bool.not_false, cond_true, cond_false, bne, Q85, Q86, Q87, Q88, Q89, Q90, Q91, Q92, Q93, Q94, Q95, Q96, Q97, Q98, Q110, Q111, Q116, Q117, Q118, Q119, Q120, Q121, Q122, Q123, Option.map_some, Option.map_none]
     exact v_leave0 h0 h3 hT rfl _ (by first | exact .inr rfl | exact .inl rfl)
    | true =>
     rw [show doesT ⟨S, Q, p, o, u, true, ov⟩ 0 3 i = ⟨S, Q, p, o, u, true, ov⟩ from by simp [doesT, headOff]]
     refine ⟨R, N, hR, hN, callW_own (c := c16) rfl rfl 0 ?_⟩
     rw [v_app, v_len]
     simp only [c16, start, List.replicate, c16_0, c16_1, c16_2, c16_3, c16_4, c16_5, c16_6, c16_7, c16_8, c16_9, c16_10, c16_11, c16_12, c16_13, c16_14, c16_15, c16_16, c16_17, c16_18, c16_19, c16_20, cl, v_bx, v_ld4, v_ld5, v_ld6, v_ld8, v_ld9, v_l0, v_l1, v_l2, v_l4, v_st6, v_st7, v_st8, v_st9, v_st10, v_clr, v_up1, v_up2, ap, x_region_ap, apR_t, e_clrmap, e_mapupd, Q122, Int.reduceBEq, Q0, Q1, Q2, Q3, Q4, Q5, Q6, Q7, Q8, Q9, Q10, Q11, Q12, Q13, Q14, Q15, Q16, Q17, Q18, Q19, Q20, Q21, Q22, Q23, Q24, Q25, Q26, Q27, Q28, Q29, Q30, Q31, Q32, Q33, Q35, Q36, Q37, Q38, Q39, Q40, Q41, Q42, Q43, Q44, Q45, Q46, Q47, Q48, Q49, Q50, Q51, Q52, Q53, Q54, Q55, Q56, Q57, Q58, Q59, Q60, Q61, Q62, Q63, Q64, Q65, Q66, Q67, Q68, Q69, Q70, Q71, Q72, Q73, Q99, Q100, Q101, Q102, Q103, Q74, Q75, Q77, Q78, Q79, Q80, Q81, Q82, Q83, Q84, clr, List.length_nil, List.length_cons, List.getElem?_cons_zero, List.getElem?_cons_succ, Nat.reduceAdd, Nat.zero_add, Nat.add_zero, Nat.reduceLeDiff, Nat.reduceSub, ↓reduceIte, List.drop_succ_cons, List.drop_zero, List.take_succ_cons, List.take_zero, Bool.false_eq_true, List.nil_append, List.cons_append, Bool.not_true, Bool.not_false, cond_true, cond_false, bne, Q85, Q86, Q87, Q88, Q89, Q90, Q91, Q92, Q93, Q94, Q95, Q96, Q97, Q98, Q110, Q111, Q116, Q117, Q118, Q119, Q120, Q121, Q122, Q123, Option.map_some, Option.map_none]
     exact v_leave0 h0 h3 hT rfl _ (by first | exact .inr rfl | exact .inl rfl)
   ·cases hd with
    | false =>
     rw [show doesT ⟨S, Q, p, o, u, false, ov⟩ 0 4 i = ⟨S, Q, i.n, 0, i.a, false, ov⟩ from by simp [doesT, headOff]]
     refine ⟨R, N, hR, hN, callW_own (c := c16) rfl rfl 0 ?_⟩
     rw [v_app, v_len]
     simp only [c16, start, List.replicate, c16_0, c16_1, c16_2, c16_3, c16_4, c16_5, c16_6, c16_7, c16_8, c16_9, c16_10, c16_11, c16_12, c16_13, c16_14, c16_15, c16_16, c16_17, c16_18, c16_19, c16_20, cl, v_bx, v_ld4, v_ld5, v_ld6, v_ld8, v_ld9, v_l0, v_l1, v_l2, v_l4, v_st6, v_st7, v_st8, v_st9, v_st10, v_clr, v_up1, v_up2, ap, x_region_ap, apR_t, e_clrmap, e_mapupd, Q122, Int.reduceBEq, Q0, Q1, Q2, Q3, Q4, Q5, Q6, Q7, Q8, Q9, Q10, Q11, Q12, Q13, Q14, Q15, Q16, Q17, Q18, Q19, Q20, Q21, Q22, Q23, Q24, Q25, Q26, Q27, Q28, Q29, Q30, Q31, Q32, Q33, Q35, Q36, Q37, Q38, Q39, Q40, Q41, Q42, Q43, Q44, Q45, Q46, Q47, Q48, Q49, Q50, Q51, Q52, Q53, Q54, Q55, Q56, Q57, Q58, Q59, Q60, Q61, Q62, Q63, Q64, Q65, Q66, Q67, Q68, Q69, Q70, Q71, Q72, Q73, Q99, Q100, Q101, Q102, Q103, Q74, Q75, Q77, Q78, Q79, Q80, Q81, Q82, Q83, Q84, clr, List.length_nil, List.length_cons, List.getElem?_cons_zero, List.getElem?_cons_succ, Nat.reduceAdd, Nat.zero_add, Nat.add_zero, Nat.reduceLeDiff, Nat.reduceSub, ↓reduceIte, List.drop_succ_cons, List.drop_zero, List.take_succ_cons, List.take_zero, Bool.false_eq_true, List.nil_append, List.cons_append, Bool.not_true, Bool.not_false, cond_true, cond_false, bne, Q85, Q86, Q87, Q88, Q89, Q90, Q91, Q92, Q93, Q94, Q95, Q96, Q97, Q98, Q110, Q111, Q116, Q117, Q118, Q119, Q120, Q121, Q122, Q123, Option.map_some, Option.map_none]
     exact v_leave0 h0 h3 hT rfl _ (by first | exact .inr rfl | exact .inl rfl)
    | true =>
     rw [show doesT ⟨S, Q, p, o, u, true, ov⟩ 0 4 i = ⟨S, Q, i.n, 0, i.a, true, ov⟩ from by simp [doesT, headOff]]
     refine ⟨R, N, hR, hN, callW_own (c := c16) rfl rfl 0 ?_⟩
     rw [v_app, v_len]
     simp only [c16, start, List.replicate, c16_0, c16_1, c16_2, c16_3, c16_4, c16_5, c16_6, c16_7, c16_8, c16_9, c16_10, c16_11, c16_12, c16_13, c16_14, c16_15, c16_16, c16_17, c16_18, c16_19, c16_20, cl, v_bx, v_ld4, v_ld5, v_ld6, v_ld8, v_ld9, v_l0, v_l1, v_l2, v_l4, v_st6, v_st7, v_st8, v_st9, v_st10, v_clr, v_up1, v_up2, ap, x_region_ap, apR_t, e_clrmap, e_mapupd, Q122, Int.reduceBEq, Q0, Q1, Q2, Q3, Q4, Q5, Q6, Q7, Q8, Q9, Q10, Q11, Q12, Q13, Q14, Q15, Q16, Q17, Q18, Q19, Q20, Q21, Q22, Q23, Q24, Q25, Q26, Q27, Q28, Q29, Q30, Q31, Q32, Q33, Q35, Q36, Q37, Q38, Q39, Q40, Q41, Q42, Q43, Q44, Q45, Q46, Q47, Q48, Q49, Q50, Q51, Q52, Q53, Q54, Q55, Q56, Q57, Q58, Q59, Q60, Q61, Q62, Q63, Q64, Q65, Q66, Q67, Q68, Q69, Q70, Q71, Q72, Q73, Q99, Q100, Q101, Q102, Q103, Q74, Q75, Q77, Q78, Q79, Q80, Q81, Q82, Q83, Q84, clr, List.length_nil, List.length_cons, List.getElem?_cons_zero, List.getElem?_cons_succ, Nat.reduceAdd, Nat.zero_add, Nat.add_zero, Nat.reduceLeDiff, Nat.reduceSub, ↓reduceIte, List.drop_succ_cons, List.drop_zero, List.take_succ_cons, List.take_zero, Bool.false_eq_true, List.nil_append, List.cons_append, Bool.not_true, Bool.not_false, cond_true, cond_false, bne, Q85, Q86, Q87, Q88, Q89, Q90, Q91, Q92, Q93, Q94, Q95, Q96, Q97, Q98, Q110, Q111, Q116, Q117, Q118, Q119, Q120, Q121, Q122, Q123, Option.map_some, Option.map_none]
     exact v_leave0 h0 h3 hT rfl _ (by first | exact .inr rfl | exact .inl rfl)
  ·rcases hk5 with rfl | rfl | rfl | rfl | rfl
   ·cases hz : (IntKind.i64.wrap (p - 1) == 0) <;> cases hd
    ·
     rw [show doesT ⟨S, Q, p, o, u, false, ov⟩ 1 0 i = ⟨S, (i.b :: Q), (IntKind.i64.wrap (p - 1)), o, u, false, ov⟩ from by simp [doesT, headOff]]
     refine ⟨R, (upd (.int .i64 i.b) (.v (.bool true)) N), hR, hN.add _, callW_own (c := c16) rfl rfl 0 ?_⟩
     rw [v_app, v_len]
     simp only [c16, start, List.replicate, c16_0, c16_1, c16_2, c16_3, c16_4, c16_5, c16_6, c16_7, c16_8, c16_9, c16_10, c16_11, c16_12, c16_13, c16_14, c16_15, c16_16, c16_17, c16_18, c16_19, c16_20, cl, v_bx, v_ld4, v_ld5, v_ld6, v_ld8, v_ld9, v_l0, v_l1, v_l2, v_l4, v_st6, v_st7, v_st8, v_st9, v_st10, v_clr, v_up1, v_up2, ap, x_region_ap, apR_t, e_clrmap, e_mapupd, Q122, Int.reduceBEq, Q0, Q1, Q2, Q3, Q4, Q5, Q6, Q7, Q8, Q9, Q10, Q11, Q12, Q13, Q14, Q15, Q16, Q17, Q18, Q19, Q20, Q21, Q22, Q23, Q24, Q25, Q26, Q27, Q28, Q29, Q30, Q31, Q32, Q33, Q35, Q36, Q37, Q38, Q39, Q40, Q41, Q42, Q43, Q44, Q45, Q46, Q47, Q48, Q49, Q50, Q51, Q52, Q53, Q54, Q55, Q56, Q57, Q58, Q59, Q60, Q61, Q62, Q63, Q64, Q65, Q66, Q67, Q68, Q69, Q70, Q71, Q72, Q73, Q99, Q100, Q101, Q102, Q103, Q74, Q75, Q77, Q78, Q79, Q80, Q81, Q82, Q83, Q84, clr, List.length_nil, List.length_cons, List.getElem?_cons_zero, List.getElem?_cons_succ, Nat.reduceAdd, Nat.zero_add, Nat.add_zero, Nat.reduceLeDiff, Nat.reduceSub, ↓reduceIte, List.drop_succ_cons, List.drop_zero, List.take_succ_cons, List.take_zero, Bool.false_eq_true, List.nil_append, List.cons_append, Bool.not_true, Bool.not_false, cond_true, cond_false, bne, Q85, Q86, Q87, Q88, Q89, Q90, Q91, Q92, Q93, Q94, Q95, Q96, Q97, Q98, Q110, Q111, Q116, Q117, Q118, Q119, Q120, Q121, Q122, Q123, Option.map_some, Option.map_none, hz]
     exact v_leave0 h0 h3 hT rfl _ (by first | exact .inr rfl | exact .inl rfl)
    ·
     rw [show doesT ⟨S, Q, p, o, u, true, ov⟩ 1 0 i = ⟨S, (i.b :: Q), (IntKind.i64.wrap (p - 1)), o, u, true, ov⟩ from by simp [doesT, headOff]]
     refine ⟨R, (upd (.int .i64 i.b) (.v (.bool true)) N), hR, hN.add _, callW_own (c := c16) rfl rfl 0 ?_⟩
     rw [v_app, v_len]
     simp only [c16, start, List.replicate, c16_0, c16_1, c16_2, c16_3, c16_4, c16_5, c16_6, c16_7, c16_8, c16_9, c16_10, c16_11, c16_12, c16_13, c16_14, c16_15, c16_16, c16_17, c16_18, c16_19, c16_20, cl, v_bx, v_ld4, v_ld5, v_ld6, v_ld8, v_ld9, v_l0, v_l1, v_l2, v_l4, v_st6, v_st7, v_st8, v_st9, v_st10, v_clr, v_up1, v_up2, ap, x_region_ap, apR_t, e_clrmap, e_mapupd, Q122, Int.reduceBEq, Q0, Q1, Q2, Q3, Q4, Q5, Q6, Q7, Q8, Q9, Q10, Q11, Q12, Q13, Q14, Q15, Q16, Q17, Q18, Q19, Q20, Q21, Q22, Q23, Q24, Q25, Q26, Q27, Q28, Q29, Q30, Q31, Q32, Q33, Q35, Q36, Q37, Q38, Q39, Q40, Q41, Q42, Q43, Q44, Q45, Q46, Q47, Q48, Q49, Q50, Q51, Q52, Q53, Q54, Q55, Q56, Q57, Q58, Q59, Q60, Q61, Q62, Q63, Q64, Q65, Q66, Q67, Q68, Q69, Q70, Q71, Q72, Q73, Q99, Q100, Q101, Q102, Q103, Q74, Q75, Q77, Q78, Q79, Q80, Q81, Q82, Q83, Q84, clr, List.length_nil, List.length_cons, List.getElem?_cons_zero, List.getElem?_cons_succ, Nat.reduceAdd, Nat.zero_add, Nat.add_zero, Nat.reduceLeDiff, Nat.reduceSub, ↓reduceIte, List.drop_succ_cons, List.drop_zero, List.take_succ_cons, List.take_zero, Bool.false_eq_true, List.nil_append, List.cons_append, Bool.not_true, Bool.not_false, cond_true, cond_false, bne, Q85, Q86, Q87, Q88, Q89, Q90, Q91, Q92, Q93, Q94, Q95, Q96, Q97, Q98, Q110, Q111, Q116, Q117, Q118, Q119, Q120, Q121, Q122, Q123, Option.map_some, Option.map_none, hz]
     exact v_leave0 h0 h3 hT rfl _ (by first | exact .inr rfl | exact .inl rfl)
    ·
     rw [show doesT ⟨S, Q, p, o, u, false, ov⟩ 1 0 i = ⟨S, (i.b :: Q), (IntKind.i64.wrap (p - 1)), o, u, false, ov⟩ from by simp [doesT, headOff]]
     refine ⟨R, (upd (.int .i64 i.b) (.v (.bool true)) N), hR, hN.add _, callW_own (c := c16) rfl rfl 0 ?_⟩
     rw [v_app, v_len]
     simp only [c16, start, List.replicate, c16_0, c16_1, c16_2, c16_3, c16_4, c16_5, c16_6, c16_7, c16_8, c16_9, c16_10, c16_11, c16_12, c16_13, c16_14, c16_15, c16_16, c16_17, c16_18, c16_19, c16_20, cl, v_bx, v_ld4, v_ld5, v_ld6, v_ld8, v_ld9, v_l0, v_l1, v_l2, v_l4, v_st6, v_st7, v_st8, v_st9, v_st10, v_clr, v_up1, v_up2, ap, x_region_ap, apR_t, e_clrmap, e_mapupd, Q122, Int.reduceBEq, Q0, Q1, Q2, Q3, Q4, Q5, Q6, Q7, Q8, Q9, Q10, Q11, Q12, Q13, Q14, Q15, Q16, Q17, Q18, Q19, Q20, Q21, Q22, Q23, Q24, Q25, Q26, Q27, Q28, Q29, Q30, Q31, Q32, Q33, Q35, Q36, Q37, Q38, Q39, Q40, Q41, Q42, Q43, Q44, Q45, Q46, Q47, Q48, Q49, Q50, Q51, Q52, Q53, Q54, Q55, Q56, Q57, Q58, Q59, Q60, Q61, Q62, Q63, Q64, Q65, Q66, Q67, Q68, Q69, Q70, Q71, Q72, Q73, Q99, Q100, Q101, Q102, Q103, Q74, Q75, Q77, Q78, Q79, Q80, Q81, Q82, Q83, Q84, clr, List.length_nil, List.length_cons, List.getElem?_cons_zero, List.getElem?_cons_succ, Nat.reduceAdd, Nat.zero_add, Nat.add_zero, Nat.reduceLeDiff, Nat.reduceSub, ↓reduceIte, List.drop_succ_cons, List.drop_zero, List.take_succ_cons, List.take_zero, Bool.false_eq_true, List.nil_append, List.cons_append, Bool.not_true, Bool.not_false, cond_true, cond_false, bne, Q85, Q86, Q87, Q88, Q89, Q90, Q91, Q92, Q93, Q94, Q95, Q96, Q97, Q98, Q110, Q111, Q116, Q117, Q118, Q119, Q120, Q121, Q122, Q123, Option.map_some, Option.map_none, hz]
     exact v_leave0 h0 h3 hT rfl _ (by first | exact .inr rfl | exact .inl rfl)
    ·
     rw [show doesT ⟨S, Q, p, o, u, true, ov⟩ 1 0 i = ⟨S, (i.b :: Q), (IntKind.i64.wrap (p - 1)), o, u, true, ov⟩ from by simp [doesT, headOff]]
     refine ⟨R, (upd (.int .i64 i.b) (.v (.bool true)) N), hR, hN.add _, callW_own (c := c16) rfl rfl 0 ?_⟩
     rw [v_app, v_len]
     simp only [c16, start, List.replicate, c16_0, c16_1, c16_2, c16_3, c16_4, c16_5, c16_6, c16_7, c16_8, c16_9, c16_10, c16_11, c16_12, c16_13, c16_14, c16_15, c16_16, c16_17, c16_18, c16_19, c16_20, cl, v_bx, v_ld4, v_ld5, v_ld6, v_ld8, v_ld9, v_l0, v_l1, v_l2, v_l4, v_st6, v_st7, v_st8, v_st9, v_st10, v_clr, v_up1, v_up2, ap, x_region_ap, apR_t, e_clrmap, e_mapupd, Q122, Int.reduceBEq, Q0, Q1, Q2, Q3, Q4, Q5, Q6, Q7, Q8, Q9, Q10, Q11, Q12, Q13, Q14, Q15, Q16, Q17, Q18, Q19, Q20, Q21, Q22, Q23, Q24, Q25, Q26, Q27, Q28, Q29, Q30, Q31, Q32, Q33, Q35, Q36, Q37, Q38, Q39, Q40, Q41, Q42, Q43, Q44, Q45, Q46, Q47, Q48, Q49, Q50, Q51, Q52, Q53, Q54, Q55, Q56, Q57, Q58, Q59, Q60, Q61, Q62, Q63, Q64, Q65, Q66, Q67, Q68, Q69, Q70, Q71, Q72, Q73, Q99, Q100, Q101, Q102, Q103, Q74, Q75, Q77, Q78, Q79, Q80, Q81, Q82, Q83, Q84, clr, List.length_nil, List.length_cons, List.getElem?_cons_zero, List.getElem?_cons_succ, Nat.reduceAdd, Nat.zero_add, Nat.add_zero, Nat.reduceLeDiff, Nat.reduceSub, ↓reduceIte, List.drop_succ_cons, List.drop_zero, List.take_succ_cons, List.take_zero, Bool.false_eq_true, List.nil_append, List.cons_append, Bool.not_true, Bool.not_false, cond_true, cond_false, bne, Q85, Q86, Q87, Q88, Q89, Q90, Q91, Q92, Q93, Q94, Q95, Q96, Q97, Q98, Q110, Q111, Q116, Q117, Q118, Q119, Q120, Q121, Q122, Q123, Option.map_some, Option.map_none, hz]
     exact v_leave0 h0 h3 hT rfl _ (by first | exact .inr rfl | exact .inl rfl)
   ·cases hz : (IntKind.i64.wrap (p - 1) == 0) <;> cases hd
    ·
     rw [show doesT ⟨S, Q, p, o, u, false, ov⟩ 1 1 i = ⟨S, Q, (IntKind.i64.wrap (p - 1)), o, u, false, ov⟩ from by simp [doesT, headOff]]
     refine ⟨R, N, hR, hN, callW_own (c := c16) rfl rfl 0 ?_⟩
     rw [v_app, v_len]
     simp only [c16, start, List.replicate, c16_0, c16_1, c16_2, c16_3, c16_4, c16_5, c16_6, c16_7, c16_8, c16_9, c16_10, c16_11, c16_12, c16_13, c16_14, c16_15, c16_16, c16_17, c16_18, c16_19, c16_20, cl, v_bx, v_ld4, v_ld5, v_ld6, v_ld8, v_ld9, v_l0, v_l1, v_l2, v_l4, v_st6, v_st7, v_st8, v_st9, v_st10, v_clr, v_up1, v_up2, ap, x_region_ap, apR_t, e_clrmap, e_mapupd, Q122, Int.reduceBEq, Q0, Q1, Q2, Q3, Q4, Q5, Q6, Q7, Q8, Q9, Q10, Q11, Q12, Q13, Q14, Q15, Q16, Q17, Q18, Q19, Q20, Q21, Q22, Q23, Q24, Q25, Q26, Q27, Q28, Q29, Q30, Q31, Q32, Q33, Q35, Q36, Q37, Q38, Q39, Q40, Q41, Q42, Q43, Q44, Q45, Q46, Q47, Q48, Q49, Q50, Q51, Q52, Q53, Q54, Q55, Q56, Q57, Q58, Q59, Q60, Q61, Q62, Q63, Q64, Q65, Q66, Q67, Q68, Q69, Q70, Q71, Q72, Q73, Q99, Q100, Q101, Q102, Q103, Q74, Q75, Q77, Q78, Q79, Q80, Q81, Q82, Q83, Q84, clr, List.length_nil, List.length_cons, List.getElem?_cons_zero, List.getElem?_cons_succ, Nat.reduceAdd, Nat.zero_add, Nat.add_zero, Nat.reduceLeDiff, Nat.reduceSub, ↓reduceIte, List.drop_succ_cons, List.drop_zero, List.take_succ_cons, List.take_zero, Bool.false_eq_true, List.nil_append, List.cons_append, Bool.not_true, Bool.not_false, cond_true, cond_false, bne, Q85, Q86, Q87, Q88, Q89, Q90, Q91, Q92, Q93, Q94, Q95, Q96, Q97, Q98, Q110, Q111, Q116, Q117, Q118, Q119, Q120, Q121, Q122, Q123, Option.map_some, Option.map_none, hz]
     exact v_leave0 h0 h3 hT rfl _ (by first | exact .inr rfl | exact .inl rfl)
    ·
     rw [show doesT ⟨S, Q, p, o, u, true, ov⟩ 1 1 i = ⟨S, Q, (IntKind.i64.wrap (p - 1)), o, u, true, ov⟩ from by simp [doesT, headOff]]
     refine ⟨R, N, hR, hN, callW_own (c := c16) rfl rfl 0 ?_⟩
     rw [v_app, v_len]
     simp only [c16, start, List.replicate, c16_0, c16_1, c16_2, c16_3, c16_4, c16_5, c16_6, c16_7, c16_8, c16_9, c16_10, c16_11, c16_12, c16_13, c16_14, c16_15, c16_16, c16_17, c16_18, c16_19, c16_20, cl, v_bx, v_ld4, v_ld5, v_ld6, v_ld8, v_ld9, v_l0, v_l1, v_l2, v_l4, v_st6, v_st7, v_st8, v_st9, v_st10, v_clr, v_up1, v_up2, ap, x_region_ap, apR_t, e_clrmap, e_mapupd, Q122, Int.reduceBEq, Q0, Q1, Q2, Q3, Q4, Q5, Q6, Q7, Q8, Q9, Q10, Q11, Q12, Q13, Q14, Q15, Q16, Q17, Q18, Q19, Q20, Q21, Q22, Q23, Q24, Q25, Q26, Q27, Q28, Q29, Q30, Q31, Q32, Q33, Q35, Q36, Q37, Q38, Q39, Q40, Q41, Q42, Q43, Q44, Q45, Q46, Q47, Q48, Q49, Q50, Q51, Q52, Q53, Q54, Q55, Q56, Q57, Q58, Q59, Q60, Q61, Q62, Q63, Q64, Q65, Q66, Q67, Q68, Q69, Q70, Q71, Q72, Q73, Q99, Q100, Q101, Q102, Q103, Q74, Q75, Q77, Q78, Q79, Q80, Q81, Q82, Q83, Q84, clr, List.length_nil, List.length_cons, List.getElem?_cons_zero, List.getElem?_cons_succ, Nat.reduceAdd, Nat.zero_add, Nat.add_zero, Nat.reduceLeDiff, Nat.reduceSub, ↓reduceIte, List.drop_succ_cons, List.drop_zero, List.take_succ_cons, List.take_zero, Bool.false_eq_true, List.nil_append, List.cons_append, Bool.not_true, Bool.not_false, cond_true, cond_false, bne, Q85, Q86, Q87, Q88, Q89, Q90, Q91, Q92, Q93, Q94, Q95, Q96, Q97, Q98, Q110, Q111, Q116, Q117, Q118, Q119, Q120, Q121, Q122, Q123, Option.map_some, Option.map_none, hz]
     exact v_leave0 h0 h3 hT rfl _ (by first | exact .inr rfl | exact .inl rfl)
    ·
     rw [show doesT ⟨S, Q, p, o, u, false, ov⟩ 1 1 i = ⟨S, Q, (IntKind.i64.wrap (p - 1)), o, u, false, ov⟩ from by simp [doesT, headOff]]
     refine ⟨R, N, hR, hN, callW_own (c := c16) rfl rfl 0 ?_⟩
     rw [v_app, v_len]
     simp only [c16, start, List.replicate, c16_0, c16_1, c16_2, c16_3, c16_4, c16_5, c16_6, c16_7, c16_8, c16_9, c16_10, c16_11, c16_12, c16_13, c16_14, c16_15, c16_16, c16_17, c16_18, c16_19, c16_20, cl, v_bx, v_ld4, v_ld5, v_ld6, v_ld8, v_ld9, v_l0, v_l1, v_l2, v_l4, v_st6, v_st7, v_st8, v_st9, v_st10, v_clr, v_up1, v_up2, ap, x_region_ap, apR_t, e_clrmap, e_mapupd, Q122, Int.reduceBEq, Q0, Q1, Q2, Q3, Q4, Q5, Q6, Q7, Q8, Q9, Q10, Q11, Q12, Q13, Q14, Q15, Q16, Q17, Q18, Q19, Q20, Q21, Q22, Q23, Q24, Q25, Q26, Q27, Q28, Q29, Q30, Q31, Q32, Q33, Q35, Q36, Q37, Q38, Q39, Q40, Q41, Q42, Q43, Q44, Q45, Q46, Q47, Q48, Q49, Q50, Q51, Q52, Q53, Q54, Q55, Q56, Q57, Q58, Q59, Q60, Q61, Q62, Q63, Q64, Q65, Q66, Q67, Q68, Q69, Q70, Q71, Q72, Q73, Q99, Q100, Q101, Q102, Q103, Q74, Q75, Q77, Q78, Q79, Q80, Q81, Q82, Q83, Q84, clr, List.length_nil, List.length_cons, List.getElem?_cons_zero, List.getElem?_cons_succ, Nat.reduceAdd, Nat.zero_add, Nat.add_zero, Nat.reduceLeDiff, Nat.reduceSub, ↓reduceIte, List.drop_succ_cons, List.drop_zero, List.take_succ_cons, List.take_zero, Bool.false_eq_true, List.nil_append, List.cons_append, Bool.not_true, Bool.not_false, cond_true, cond_false, bne, Q85, Q86, Q87, Q88, Q89, Q90, Q91, Q92, Q93, Q94, Q95, Q96, Q97, Q98, Q110, Q111, Q116, Q117, Q118, Q119, Q120, Q121, Q122, Q123, Option.map_some, Option.map_none, hz]
     exact v_leave0 h0 h3 hT rfl _ (by first | exact .inr rfl | exact .inl rfl)
    ·
     rw [show doesT ⟨S, Q, p, o, u, true, ov⟩ 1 1 i = ⟨S, Q, (IntKind.i64.wrap (p - 1)), o, u, true, ov⟩ from by simp [doesT, headOff]]
     refine ⟨R, N, hR, hN, callW_own (c := c16) rfl rfl 0 ?_⟩
     rw [v_app, v_len]
     simp only [c16, start, List.replicate, c16_0, c16_1, c16_2, c16_3, c16_4, c16_5, c16_6, c16_7, c16_8, c16_9, c16_10, c16_11, c16_12, c16_13, c16_14, c16_15, c16_16, c16_17, c16_18, c16_19, c16_20, cl, v_bx, v_ld4, v_ld5, v_ld6, v_ld8, v_ld9, v_l0, v_l1, v_l2, v_l4, v_st6, v_st7, v_st8, v_st9, v_st10, v_clr, v_up1, v_up2, ap, x_region_ap, apR_t, e_clrmap, e_mapupd, Q122, Int.reduceBEq, Q0, Q1, Q2, Q3, Q4, Q5, Q6, Q7, Q8, Q9, Q10, Q11, Q12, Q13, Q14, Q15, Q16, Q17, Q18, Q19, Q20, Q21, Q22, Q23, Q24, Q25, Q26, Q27, Q28, Q29, Q30, Q31, Q32, Q33, Q35, Q36, Q37, Q38, Q39, Q40, Q41, Q42, Q43, Q44, Q45, Q46, Q47, Q48, Q49, Q50, Q51, Q52, Q53, Q54, Q55, Q56, Q57, Q58, Q59, Q60, Q61, Q62, Q63, Q64, Q65, Q66, Q67, Q68, Q69, Q70, Q71, Q72, Q73, Q99, Q100, Q101, Q102, Q103, Q74, Q75, Q77, Q78, Q79, Q80, Q81, Q82, Q83, Q84, clr, List.length_nil, List.length_cons, List.getElem?_cons_zero, List.getElem?_cons_succ, Nat.reduceAdd, Nat.zero_add, Nat.add_zero, Nat.reduceLeDiff, Nat.reduceSub, ↓reduceIte, List.drop_succ_cons, List.drop_zero, List.take_succ_cons, List.take_zero, Bool.false_eq_true, List.nil_append, List.cons_append, Bool.not_true, Bool.not_false, cond_true, cond_false, bne, Q85, Q86, Q87, Q88, Q89, Q90, Q91, Q92, Q93, Q94, Q95, Q96, Q97, Q98, Q110, Q111, Q116, Q117, Q118, Q119, Q120, Q121, Q122, Q123, Option.map_some, Option.map_none, hz]
     exact v_leave0 h0 h3 hT rfl _ (by first | exact .inr rfl | exact .inl rfl)
   ·cases hz : (IntKind.i64.wrap (p - 1) == 0) <;> cases hd
    ·
     rw [show doesT ⟨S, Q, p, o, u, false, ov⟩ 1 2 i = ⟨S, Q, (IntKind.i64.wrap (p - 1)), o, u, false, ov⟩ from by simp [doesT, headOff]]
     refine ⟨R, N, hR, hN, callW_own (c := c16) rfl rfl 0 ?_⟩
     rw [v_app, v_len]
     simp only [c16, start, List.replicate, c16_0, c16_1, c16_2, c16_3, c16_4, c16_5, c16_6, c16_7, c16_8, c16_9, c16_10, c16_11, c16_12, c16_13, c16_14, c16_15, c16_16, c16_17, c16_18, c16_19, c16_20, cl, v_bx, v_ld4, v_ld5, v_ld6, v_ld8, v_ld9, v_l0, v_l1, v_l2, v_l4, v_st6, v_st7, v_st8, v_st9, v_st10, v_clr, v_up1, v_up2, ap, x_region_ap, apR_t, e_clrmap, e_mapupd, Q122, Int.reduceBEq, Q0, Q1, Q2, Q3, Q4, Q5, Q6, Q7, Q8, Q9, Q10, Q11, Q12, Q13, Q14, Q15, Q16, Q17, Q18, Q19, Q20, Q21, Q22, Q23, Q24, Q25, Q26, Q27, Q28, Q29, Q30, Q31, Q32, Q33, Q35, Q36, Q37, Q38, Q39, Q40, Q41, Q42, Q43, Q44, Q45, Q46, Q47, Q48, Q49, Q50, Q51, Q52, Q53, Q54, Q55, Q56, Q57, Q58, Q59, Q60, Q61, Q62, Q63, Q64, Q65, Q66, Q67, Q68, Q69, Q70, Q71, Q72, Q73, Q99, Q100, Q101, Q102, Q103, Q74, Q75, Q77, Q78, Q79, Q80, Q81, Q82, Q83, Q84, clr, List.length_nil, List.length_cons, List.getElem?_cons_zero, List.getElem?_cons_succ, Nat.reduceAdd, Nat.zero_add, Nat.add_zero, Nat.reduceLeDiff, Nat.reduceSub, ↓reduceIte, List.drop_succ_cons, List.drop_zero, List.take_succ_cons, List.take_zero, Bool.false_eq_true, List.nil_append, List.cons_append, Bool.not_true, Bool.not_false, cond_true, cond_false, bne, Q85, Q86, Q87, Q88, Q89, Q90, Q91, Q92, Q93, Q94, Q95, Q96, Q97, Q98, Q110, Q111, Q116, Q117, Q118, Q119, Q120, Q121, Q122, Q123, Option.map_some, Option.map_none, hz]
     exact v_leave0 h0 h3 hT rfl _ (by first | exact .inr rfl | exact .inl rfl)
    ·
     rw [show doesT ⟨S, Q, p, o, u, true, ov⟩ 1 2 i = ⟨S, Q, (IntKind.i64.wrap (p - 1)), o, u, true, ov⟩ from by simp [doesT, headOff]]
     refine ⟨R, N, hR, hN, callW_own (c := c16) rfl rfl 0 ?_⟩
     rw [v_app, v_len]
     simp only [c16, start, List.replicate, c16_0, c16_1, c16_2, c16_3, c16_4, c16_5, c16_6, c16_7, c16_8, c16_9, c16_10, c16_11, c16_12, c16_13, c16_14, c16_15, c16_16, c16_17, c16_18, c16_19, c16_20, cl, v_bx, v_ld4, v_ld5, v_ld6, v_ld8, v_ld9, v_l0, v_l1, v_l2, v_l4, v_st6, v_st7, v_st8, v_st9, v_st10, v_clr, v_up1, v_up2, ap, x_region_ap, apR_t, e_clrmap, e_mapupd, Q122, Int.reduceBEq, Q0, Q1, Q2, Q3, Q4, Q5, Q6, Q7, Q8, Q9, Q10, Q11, Q12, Q13, Q14, Q15, Q16, Q17, Q18, Q19, Q20, Q21, Q22, Q23, Q24, Q25, Q26, Q27, Q28, Q29, Q30, Q31, Q32, Q33, Q35, Q36, Q37, Q38, Q39, Q40, Q41, Q42, Q43, Q44, Q45, Q46, Q47, Q48, Q49, Q50, Q51, Q52, Q53, Q54, Q55, Q56, Q57, Q58, Q59, Q60, Q61, Q62, Q63, Q64, Q65, Q66, Q67, Q68, Q69, Q70, Q71, Q72, Q73, Q99, Q100, Q101, Q102, Q103, Q74, Q75, Q77, Q78, Q79, Q80, Q81, Q82, Q83, Q84, clr, List.length_nil, List.length_cons, List.getElem?_cons_zero, List.getElem?_cons_succ, Nat.reduceAdd, Nat.zero_add, Nat.add_zero, Nat.reduceLeDiff, Nat.reduceSub, ↓reduceIte, List.drop_succ_cons, List.drop_zero, List.take_succ_cons, List.take_zero, Bool.false_eq_true, List.nil_append, List.cons_append, Bool.not_true, Bool.not_false, cond_true, cond_false, bne, Q85, Q86, Q87, Q88, Q89, Q90, Q91, Q92, Q93, Q94, Q95, Q96, Q97, Q98, Q110, Q111, Q116, Q117, Q118, Q119, Q120, Q121, Q122, Q123, Option.map_some, Option.map_none, hz]
     exact v_leave0 h0 h3 hT rfl _ (by first | exact .inr rfl | exact .inl rfl)
    ·
     rw [show doesT ⟨S, Q, p, o, u, false, ov⟩ 1 2 i = ⟨S, Q, (IntKind.i64.wrap (p - 1)), o, u, false, ov⟩ from by simp [doesT, headOff]]
     refine ⟨R, N, hR, hN, callW_own (c := c16) rfl rfl 0 ?_⟩
     rw [v_app, v_len]
     simp only [c16, start, List.replicate, c16_0, c16_1, c16_2, c16_3, c16_4, c16_5, c16_6, c16_7, c16_8, c16_9, c16_10, c16_11, c16_12, c16_13, c16_14, c16_15, c16_16, c16_17, c16_18, c16_19, c16_20, cl, v_bx, v_ld4, v_ld5, v_ld6, v_ld8, v_ld9, v_l0, v_l1, v_l2, v_l4, v_st6, v_st7, v_st8, v_st9, v_st10, v_clr, v_up1, v_up2, ap, x_region_ap, apR_t, e_clrmap, e_mapupd, Q122, Int.reduceBEq, Q0, Q1, Q2, Q3, Q4, Q5, Q6, Q7, Q8, Q9, Q10, Q11, Q12, Q13, Q14, Q15, Q16, Q17, Q18, Q19, Q20, Q21, Q22, Q23, Q24, Q25, Q26, Q27, Q28, Q29, Q30, Q31, Q32, Q33, Q35, Q36, Q37, Q38, Q39, Q40, Q41, Q42, Q43, Q44, Q45, Q46, Q47, Q48, Q49, Q50, Q51, Q52, Q53, Q54, Q55, Q56, Q57, Q58, Q59, Q60, Q61, Q62, Q63, Q64, Q65, Q66, Q67, Q68, Q69, Q70, Q71, Q72, Q73, Q99, Q100, Q101, Q102, Q103, Q74, Q75, Q77, Q78, Q79, Q80, Q81, Q82, Q83, Q84, clr, List.length_nil, List.length_cons, List.getElem?_cons_zero, List.getElem?_cons_succ, Nat.reduceAdd, Nat.zero_add, Nat.add_zero, Nat.reduceLeDiff, Nat.reduceSub, ↓reduceIte, List.drop_succ_cons, List.drop_zero, List.take_succ_cons, List.take_zero, Bool.false_eq_true, List.nil_append, List.cons_append, Bool.not_true, Bool.not_false, cond_true, cond_false, bne, Q85, Q86, Q87, Q88, Q89, Q90, Q91, Q92, Q93, Q94, Q95, Q96, Q97, Q98, Q110, Q111, Q116, Q117, Q118, Q119, Q120, Q121, Q122, Q123, Option.map_some, Option.map_none, hz]
     exact v_leave0 h0 h3 hT rfl _ (by first | exact .inr rfl | exact .inl rfl)
    ·
     rw [show doesT ⟨S, Q, p, o, u, true, ov⟩ 1 2 i = ⟨S, Q, (IntKind.i64.wrap (p - 1)), o, u, true, ov⟩ from by simp [doesT, headOff]]
     refine ⟨R, N, hR, hN, callW_own (c := c16) rfl rfl 0 ?_⟩
     rw [v_app, v_len]
     simp only [c16, start, List.replicate, c16_0, c16_1, c16_2, c16_3, c16_4, c16_5, c16_6, c16_7, c16_8, c16_9, c16_10, c16_11, c16_12, c16_13, c16_14, c16_15, c16_16, c16_17, c16_18, c16_19, c16_20, cl, v_bx, v_ld4, v_ld5, v_ld6, v_ld8, v_ld9, v_l0, v_l1, v_l2, v_l4, v_st6, v_st7, v_st8, v_st9, v_st10, v_clr, v_up1, v_up2, ap, x_region_ap, apR_t, e_clrmap, e_mapupd, Q122, Int.reduceBEq, Q0, Q1, Q2, Q3, Q4, Q5, Q6, Q7, Q8, Q9, Q10, Q11, Q12, Q13, Q14, Q15, Q16, Q17, Q18, Q19, Q20, Q21, Q22, Q23, Q24, Q25, Q26, Q27, Q28, Q29, Q30, Q31, Q32, Q33, Q35, Q36, Q37, Q38, Q39, Q40, Q41, Q42, Q43, Q44, Q45, Q46, Q47, Q48, Q49, Q50, Q51, Q52, Q53, Q54, Q55, Q56, Q57, Q58, Q59, Q60, Q61, Q62, Q63, Q64, Q65, Q66, Q67, Q68, Q69, Q70, Q71, Q72, Q73, Q99, Q100, Q101, Q102, Q103, Q74, Q75, Q77, Q78, Q79, Q80, Q81, Q82, Q83, Q84, clr, List.length_nil, List.length_cons, List.getElem?_cons_zero, List.getElem?_cons_succ, Nat.reduceAdd, Nat.zero_add, Nat.add_zero, Nat.reduceLeDiff, Nat.reduceSub, ↓reduceIte, List.drop_succ_cons, List.drop_zero, List.take_succ_cons, List.take_zero, Bool.false_eq_true, List.nil_append, List.cons_append, Bool.not_true, Bool.not_false, cond_true, cond_false, bne, Q85, Q86, Q87, Q88, Q89, Q90, Q91, Q92, Q93, Q94, Q95, Q96, Q97, Q98, Q110, Q111, Q116, Q117, Q118, Q119, Q120, Q121, Q122, Q123, Option.map_some, Option.map_none, hz]
     exact v_leave0 h0 h3 hT rfl _ (by first | exact .inr rfl | exact .inl rfl)
   ·cases hz : (IntKind.i64.wrap (p - 1) == 0) <;> cases hd
    ·
     rw [show doesT ⟨S, Q, p, o, u, false, ov⟩ 1 3 i = ⟨S, Q, (IntKind.i64.wrap (p - 1)), o, u, false, ov⟩ from by simp [doesT, headOff]]
     refine ⟨R, N, hR, hN, callW_own (c := c16) rfl rfl 0 ?_⟩
     rw [v_app, v_len]
     simp only [c16, start, List.replicate, c16_0, c16_1, c16_2, c16_3, c16_4, c16_5, c16_6, c16_7, c16_8, c16_9, c16_10, c16_11, c16_12, c16_13, c16_14, c16_15, c16_16, c16_17, c16_18, c16_19, c16_20, cl, v_bx, v_ld4, v_ld5, v_ld6, v_ld8, v_ld9, v_l0, v_l1, v_l2, v_l4, v_st6, v_st7, v_st8, v_st9, v_st10, v_clr, v_up1, v_up2, ap, x_region_ap, apR_t, e_clrmap, e_mapupd, Q122, Int.reduceBEq, Q0, Q1, Q2, Q3, Q4, Q5, Q6, Q7, Q8, Q9, Q10, Q11, Q12, Q13, Q14, Q15, Q16, Q17, Q18, Q19, Q20, Q21, Q22, Q23, Q24, Q25, Q26, Q27, Q28, Q29, Q30, Q31, Q32, Q33, Q35, Q36, Q37, Q38, Q39, Q40, Q41, Q42, Q43, Q44, Q45, Q46, Q47, Q48, Q49, Q50, Q51, Q52, Q53, Q54, Q55, Q56, Q57, Q58, Q59, Q60, Q61, Q62, Q63, Q64, Q65, Q66, Q67, Q68, Q69, Q70, Q71, Q72, Q73, Q99, Q100, Q101, Q102, Q103, Q74, Q75, Q77, Q78, Q79, Q80, Q81, Q82, Q83, Q84, clr, List.length_nil, List.length_cons, List.getElem?_cons_zero, List.getElem?_cons_succ, Nat.reduceAdd, Nat.zero_add, Nat.add_zero, Nat.reduceLeDiff, Nat.reduceSub, ↓reduceIte, List.drop_succ_cons, List.drop_zero, List.take_succ_cons, List.take_zero, Bool.false_eq_true, List.nil_append, List.cons_append, Bool.not_true, Bool.not_false, cond_true, cond_false, bne, Q85, Q86, Q87, Q88, Q89, Q90, Q91, Q92, Q93, Q94, Q95, Q96, Q97, Q98, Q110, Q111, Q116, Q117, Q118, Q119, Q120, Q121, Q122, Q123, Option.map_some, Option.map_none, hz]
     exact v_leave0 h0 h3 hT rfl _ (by first | exact .inr rfl | exact .inl rfl)
    ·
     rw [show doesT ⟨S, Q, p, o, u, true, ov⟩ 1 3 i = ⟨S, Q, (IntKind.i64.wrap (p - 1)), o, u, true, ov⟩ from by simp [doesT, headOff]]
     refine ⟨R, N, hR, hN, callW_own (c := c16) rfl rfl 0 ?_⟩
     rw [v_app, v_len]
     simp only [c16, start, List.replicate, c16_0, c16_1, c16_2, c16_3, c16_4, c16_5, c16_6, c16_7, c16_8, c16_9, c16_10, c16_11, c16_12, c16_13, c16_14, c16_15, c16_16, c16_17, c16_18, c16_19, c16_20, cl, v_bx, v_ld4, v_ld5, v_ld6, v_ld8, v_ld9, v_l0, v_l1, v_l2, v_l4, v_st6, v_st7, v_st8, v_st9, v_st10, v_clr, v_up1, v_up2, ap, x_region_ap, apR_t, e_clrmap, e_mapupd, Q122, Int.reduceBEq, Q0, Q1, Q2, Q3, Q4, Q5, Q6, Q7, Q8, Q9, Q10, Q11, Q12, Q13, Q14, Q15, Q16, Q17, Q18, Q19, Q20, Q21, Q22, Q23, Q24, Q25, Q26, Q27, Q28, Q29, Q30, Q31, Q32, Q33, Q35, Q36, Q37, Q38, Q39, Q40, Q41, Q42, Q43, Q44, Q45, Q46, Q47, Q48, Q49, Q50, Q51, Q52, Q53, Q54, Q55, Q56, Q57, Q58, Q59, Q60, Q61, Q62, Q63, Q64, Q65, Q66, Q67, Q68, Q69, Q70, Q71, Q72, Q73, Q99, Q100, Q101, Q102, Q103, Q74, Q75, Q77, Q78, Q79, Q80, Q81, Q82, Q83, Q84, clr, List.length_nil, List.length_cons, List.getElem?_cons_zero, List.getElem?_cons_succ, Nat.reduceAdd, Nat.zero_add, Nat.add_zero, Nat.reduceLeDiff, Nat.reduceSub, ↓reduceIte, List.drop_succ_cons, List.drop_zero, List.take_succ_cons, List.take_zero, Bool.false_eq_true, List.nil_append, List.cons_append, Bool.not_true, Bool.not_false, cond_true, cond_false, bne, Q85, Q86, Q87, Q88, Q89, Q90, Q91, Q92, Q93, Q94, Q95, Q96, Q97, Q98, Q110, Q111, Q116, Q117, Q118, Q119, Q120, Q121, Q122, Q123, Option.map_some, Option.map_none, hz]
     exact v_leave0 h0 h3 hT rfl _ (by first | exact .inr rfl | exact .inl rfl)
    ·
     rw [show doesT ⟨S, Q, p, o, u, false, ov⟩ 1 3 i = ⟨S, Q, (IntKind.i64.wrap (p - 1)), o, u, false, ov⟩ from by simp [doesT, headOff]]
     refine ⟨R, N, hR, hN, callW_own (c := c16) rfl rfl 0 ?_⟩
     rw [v_app, v_len]
     simp only [c16, start, List.replicate, c16_0, c16_1, c16_2, c16_3, c16_4, c16_5, c16_6, c16_7, c16_8, c16_9, c16_10, c16_11, c16_12, c16_13, c16_14, c16_15, c16_16, c16_17, c16_18, c16_19, c16_20, cl, v_bx, v_ld4, v_ld5, v_ld6, v_ld8, v_ld9, v_l0, v_l1, v_l2, v_l4, v_st6, v_st7, v_st8, v_st9, v_st10, v_clr, v_up1, v_up2, ap, x_region_ap, apR_t, e_clrmap, e_mapupd, Q122, Int.reduceBEq, Q0, Q1, Q2, Q3, Q4, Q5, Q6, Q7, Q8, Q9, Q10, Q11, Q12, Q13, Q14, Q15, Q16, Q17, Q18, Q19, Q20, Q21, Q22, Q23, Q24, Q25, Q26, Q27, Q28, Q29, Q30, Q31, Q32, Q33, Q35, Q36, Q37, Q38, Q39, Q40, Q41, Q42, Q43, Q44, Q45, Q46, Q47, Q48, Q49, Q50, Q51, Q52, Q53, Q54, Q55, Q56, Q57, Q58, Q59, Q60, Q61, Q62, Q63, Q64, Q65, Q66, Q67, Q68, Q69, Q70, Q71, Q72, Q73, Q99, Q100, Q101, Q102, Q103, Q74, Q75, Q77, Q78, Q79, Q80, Q81, Q82, Q83, Q84, clr, List.length_nil, List.length_cons, List.getElem?_cons_zero, List.getElem?_cons_succ, Nat.reduceAdd, Nat.zero_add, Nat.add_zero, Nat.reduceLeDiff, Nat.reduceSub, ↓reduceIte, List.drop_succ_cons, List.drop_zero, List.take_succ_cons, List.take_zero, Bool.false_eq_true, List.nil_append, List.cons_append, Bool.not_true, Bool.not_false, cond_true, cond_false, bne, Q85, Q86, Q87, Q88, Q89, Q90, Q91, Q92, Q93, Q94, Q95, Q96, Q97, Q98, Q110, Q111, Q116, Q117, Q118, Q119, Q120, Q121, Q122, Q123, Option.map_some, Option.map_none, hz]
     exact v_leave0 h0 h3 hT rfl _ (by first | exact .inr rfl | exact .inl rfl)
    ·
     rw [show doesT ⟨S, Q, p, o, u, true, ov⟩ 1 3 i = ⟨S, Q, (IntKind.i64.wrap (p - 1)), o, u, true, ov⟩ from by simp [doesT, headOff]]
     refine ⟨R, N, hR, hN, callW_own (c := c16) rfl rfl 0 ?_⟩
     rw [v_app, v_len]
     simp only [c16, start, List.replicate, c16_0, c16_1, c16_2, c16_3, c16_4, c16_5, c16_6, c16_7, c16_8, c16_9, c16_10, c16_11, c16_12, c16_13, c16_14, c16_15, c16_16, c16_17, c16_18, c16_19, c16_20, cl, v_bx, v_ld4, v_ld5, v_ld6, v_ld8, v_ld9, v_l0, v_l1, v_l2, v_l4, v_st6, v_st7, v_st8, v_st9, v_st10, v_clr, v_up1, v_up2, ap, x_region_ap, apR_t, e_clrmap, e_mapupd, Q122, Int.reduceBEq, Q0, Q1, Q2, Q3, Q4, Q5, Q6, Q7, Q8, Q9, Q10, Q11, Q12, Q13, Q14, Q15, Q16, Q17, Q18, Q19, Q20, Q21, Q22, Q23, Q24, Q25, Q26, Q27, Q28, Q29, Q30, Q31, Q32, Q33, Q35, Q36, Q37, Q38, Q39, Q40, Q41, Q42, Q43, Q44, Q45, Q46, Q47, Q48, Q49, Q50, Q51, Q52, Q53, Q54, Q55, Q56, Q57, Q58, Q59, Q60, Q61, Q62, Q63, Q64, Q65, Q66, Q67, Q68, Q69, Q70, Q71, Q72, Q73, Q99, Q100, Q101, Q102, Q103, Q74, Q75, Q77, Q78, Q79, Q80, Q81, Q82, Q83, Q84, clr, List.length_nil, List.length_cons, List.getElem?_cons_zero, List.getElem?_cons_succ, Nat.reduceAdd, Nat.zero_add, Nat.add_zero, Nat.reduceLeDiff, Nat.reduceSub, ↓reduceIte, List.drop_succ_cons, List.drop_zero, List.take_succ_cons, List.take_zero, Bool.false_eq_true, List.nil_append, List.cons_append, Bool.not_true, Bool.not_false, cond_true, cond_false, bne, Q85, Q86, Q87, Q88, Q89, Q90, Q91, Q92, Q93, Q94, Q95, Q96, Q97, Q98, Q110, Q111, Q116, Q117, Q118, Q119, Q120, Q121, Q122, Q123, Option.map_some, Option.map_none, hz]
     exact v_leave0 h0 h3 hT rfl _ (by first | exact .inr rfl | exact .inl rfl)
   ·cases hz : (IntKind.i64.wrap (p - 1) == 0) <;> cases hd
    ·
     rw [show doesT ⟨S, Q, p, o, u, false, ov⟩ 1 4 i = ⟨(i.b :: S), Q, (IntKind.i64.wrap (p - 1)), o, u, false, ov⟩ from by simp [doesT, headOff]]
     refine ⟨(upd (.int .i64 i.b) (.v (.bool true)) R), N, hR.add _, hN, callW_own (c := c16) rfl rfl 0 ?_⟩
     rw [v_app, v_len]
     simp only [c16, start, List.replicate, c16_0, c16_1, c16_2, c16_3, c16_4, c16_5, c16_6, c16_7, c16_8, c16_9, c16_10, c16_11, c16_12, c16_13, c16_14, c16_15, c16_16, c16_17, c16_18, c16_19, c16_20, cl, v_bx, v_ld4, v_ld5, v_ld6, v_ld8, v_ld9, v_l0, v_l1, v_l2, v_l4, v_st6, v_st7, v_st8, v_st9, v_st10, v_clr, v_up1, v_up2, ap, x_region_ap, apR_t, e_clrmap, e_mapupd, Q122, Int.reduceBEq, Q0, Q1, Q2, Q3, Q4, Q5, Q6, Q7, Q8, Q9, Q10, Q11, Q12, Q13, Q14, Q15, Q16, Q17, Q18, Q19, Q20, Q21, Q22, Q23, Q24, Q25, Q26, Q27, Q28, Q29, Q30, Q31, Q32, Q33, Q35, Q36, Q37, Q38, Q39, Q40, Q41, Q42, Q43, Q44, Q45, Q46, Q47, Q48, Q49, Q50, Q51, Q52, Q53, Q54, Q55, Q56, Q57, Q58, Q59, Q60, Q61, Q62, Q63, Q64, Q65, Q66, Q67, Q68, Q69, Q70, Q71, Q72, Q73, Q99, Q100, Q101, Q102, Q103, Q74, Q75, Q77, Q78, Q79, Q80, Q81, Q82, Q83, Q84, clr, List.length_nil, List.length_cons, List.getElem?_cons_zero, List.getElem?_cons_succ, Nat.reduceAdd, Nat.zero_add, Nat.add_zero, Nat.reduceLeDiff, Nat.reduceSub, ↓reduceIte, List.drop_succ_cons, List.drop_zero, List.take_succ_cons, List.take_zero, Bool.false_eq_true, List.nil_append, List.cons_append, Bool.not_true, Bool.not_false, cond_true, cond_false, bne, Q85, Q86, Q87, Q88, Q89, Q90, Q91, Q92, Q93, Q94, Q95, Q96, Q97, Q98, Q110, Q111, Q116, Q117, Q118, Q119, Q120, Q121, Q122, Q123, Option.map_some, Option.map_none, hz]
     exact v_leave0 h0 h3 hT rfl _ (by first | exact .inr rfl | exact .inl rfl)
    ·
     rw [show doesT ⟨S, Q, p, o, u, true, ov⟩ 1 4 i = ⟨(i.b :: S), Q, (IntKind.i64.wrap (p - 1)), o, u, true, ov⟩ from by simp [doesT, headOff]]
     refine ⟨(upd (.int .i64 i.b) (.v (.bool true)) R), N, hR.add _, hN, callW_own (c := c16) rfl rfl 0 ?_⟩
     rw [v_app, v_len]
     simp only [c16, start, List.replicate, c16_0, c16_1, c16_2, c16_3, c16_4, c16_5, c16_6, c16_7, c16_8, c16_9, c16_10, c16_11, c16_12, c16_13, c16_14, c16_15, c16_16, c16_17, c16_18, c16_19, c16_20, cl, v_bx, v_ld4, v_ld5, v_ld6, v_ld8, v_ld9, v_l0, v_l1, v_l2, v_l4, v_st6, v_st7, v_st8, v_st9, v_st10, v_clr, v_up1, v_up2, ap, x_region_ap, apR_t, e_clrmap, e_mapupd, Q122, Int.reduceBEq, Q0, Q1, Q2, Q3, Q4, Q5, Q6, Q7, Q8, Q9, Q10, Q11, Q12, Q13, Q14, Q15, Q16, Q17, Q18, Q19, Q20, Q21, Q22, Q23, Q24, Q25, Q26, Q27, Q28, Q29, Q30, Q31, Q32, Q33, Q35, Q36, Q37, Q38, Q39, Q40, Q41, Q42, Q43, Q44, Q45, Q46, Q47, Q48, Q49, Q50, Q51, Q52, Q53, Q54, Q55, Q56, Q57, Q58, Q59, Q60, Q61, Q62, Q63, Q64, Q65, Q66, Q67, Q68, Q69, Q70, Q71, Q72, Q73, Q99, Q100, Q101, Q102, Q103, Q74, Q75, Q77, Q78, Q79, Q80, Q81, Q82, Q83, Q84, clr, List.length_nil, List.length_cons, List.getElem?_cons_zero, List.getElem?_cons_succ, Nat.reduceAdd, Nat.zero_add, Nat.add_zero, Nat.reduceLeDiff, Nat.reduceSub, ↓reduceIte, List.drop_succ_cons, List.drop_zero, List.take_succ_cons, List.take_zero, Bool.false_eq_true, List.nil_append, List.cons_append, Bool.not_true, Bool.not_false, cond_true, cond_false, bne, Q85, Q86, Q87, Q88, Q89, Q90, Q91, Q92, Q93, Q94, Q95, Q96, Q97, Q98, Q110, Q111, Q116, Q117, Q118, Q119, Q120, Q121, Q122, Q123, Option.map_some, Option.map_none, hz]
     exact v_leave0 h0 h3 hT rfl _ (by first | exact .inr rfl | exact .inl rfl)
    ·
     rw [show doesT ⟨S, Q, p, o, u, false, ov⟩ 1 4 i = ⟨(i.b :: S), Q, (IntKind.i64.wrap (p - 1)), o, u, false, ov⟩ from by simp [doesT, headOff]]
     refine ⟨(upd (.int .i64 i.b) (.v (.bool true)) R), N, hR.add _, hN, callW_own (c := c16) rfl rfl 0 ?_⟩
     rw [v_app, v_len]
     simp only [c16, start, List.replicate, c16_0, c16_1, c16_2, c16_3, c16_4, c16_5, c16_6, c16_7, c16_8, c16_9, c16_10, c16_11, c16_12, c16_13, c16_14, c16_15, c16_16, c16_17, c16_18, c16_19, c16_20, cl, v_bx, v_ld4, v_ld5, v_ld6, v_ld8, v_ld9, v_l0, v_l1, v_l2, v_l4, v_st6, v_st7, v_st8, v_st9, v_st10, v_clr, v_up1, v_up2, ap, x_region_ap, apR_t, e_clrmap, e_mapupd, Q122, Int.reduceBEq, Q0, Q1, Q2, Q3, Q4, Q5, Q6, Q7, Q8, Q9, Q10, Q11, Q12, Q13, Q14, Q15, Q16, Q17, Q18, Q19, Q20, Q21, Q22, Q23, Q24, Q25, Q26, Q27, Q28, Q29, Q30, Q31, Q32, Q33, Q35, Q36, Q37, Q38, Q39, Q40, Q41, Q42, Q43, Q44, Q45, Q46, Q47, Q48, Q49, Q50, Q51, Q52, Q53, Q54, Q55, Q56, Q57, Q58, Q59, Q60, Q61, Q62, Q63, Q64, Q65, Q66, Q67, Q68, Q69, Q70, Q71, Q72, Q73, Q99, Q100, Q101, Q102, Q103, Q74, Q75, Q77, Q78, Q79, Q80, Q81, Q82, Q83, Q84, clr, List.length_nil, List.length_cons, List.getElem?_cons_zero, List.getElem?_cons_succ, Nat.reduceAdd, Nat.zero_add, Nat.add_zero, Nat.reduceLeDiff, Nat.reduceSub, ↓reduceIte, List.drop_succ_cons, List.drop_zero, List.take_succ_cons, List.take_zero, Bool.false_eq_true, List.nil_append, List.cons_append, Bool.not_true, Bool.not_false, cond_true, cond_false, bne, Q85, Q86, Q87, Q88, Q89, Q90, Q91, Q92, Q93, Q94, Q95, Q96, Q97, Q98, Q110, Q111, Q116, Q117, Q118, Q119, Q120, Q121, Q122, Q123, Option.map_some, Option.map_none, hz]
     exact v_leave0 h0 h3 hT rfl _ (by first | exact .inr rfl | exact .inl rfl)
    ·
     rw [show doesT ⟨S, Q, p, o, u, true, ov⟩ 1 4 i = ⟨(i.b :: S), Q, (IntKind.i64.wrap (p - 1)), o, u, true, ov⟩ from by simp [doesT, headOff]]
     refine ⟨(upd (.int .i64 i.b) (.v (.bool true)) R), N, hR.add _, hN, callW_own (c := c16) rfl rfl 0 ?_⟩
     rw [v_app, v_len]
     simp only [c16, start, List.replicate, c16_0, c16_1, c16_2, c16_3, c16_4, c16_5, c16_6, c16_7, c16_8, c16_9, c16_10, c16_11, c16_12, c16_13, c16_14, c16_15, c16_16, c16_17, c16_18, c16_19, c16_20, cl, v_bx, v_ld4, v_ld5, v_ld6, v_ld8, v_ld9, v_l0, v_l1, v_l2, v_l4, v_st6, v_st7, v_st8, v_st9, v_st10, v_clr, v_up1, v_up2, ap, x_region_ap, apR_t, e_clrmap, e_mapupd, Q122, Int.reduceBEq, Q0, Q1, Q2, Q3, Q4, Q5, Q6, Q7, Q8, Q9, Q10, Q11, Q12, Q13, Q14, Q15, Q16, Q17, Q18, Q19, Q20, Q21, Q22, Q23, Q24, Q25, Q26, Q27, Q28, Q29, Q30, Q31, Q32, Q33, Q35, Q36, Q37, Q38, Q39, Q40, Q41, Q42, Q43, Q44, Q45, Q46, Q47, Q48, Q49, Q50, Q51, Q52, Q53, Q54, Q55, Q56, Q57, Q58, Q59, Q60, Q61, Q62, Q63, Q64, Q65, Q66, Q67, Q68, Q69, Q70, Q71, Q72, Q73, Q99, Q100, Q101, Q102, Q103, Q74, Q75, Q77, Q78, Q79, Q80, Q81, Q82, Q83, Q84, clr, List.length_nil, List.length_cons, List.getElem?_cons_zero, List.getElem?_cons_succ, Nat.reduceAdd, Nat.zero_add, Nat.add_zero, Nat.reduceLeDiff, Nat.reduceSub, ↓reduceIte, List.drop_succ_cons, List.drop_zero, List.take_succ_cons, List.take_zero, Bool.false_eq_true, List.nil_append, List.cons_append, Bool.not_true, Bool.not_false, cond_true, cond_false, bne, Q85, Q86, Q87, Q88, Q89, Q90, Q91, Q92, Q93, Q94, Q95, Q96, Q97, Q98, Q110, Q111, Q116, Q117, Q118, Q119, Q120, Q121, Q122, Q123, Option.map_some, Option.map_none, hz]
     exact v_leave0 h0 h3 hT rfl _ (by first | exact .inr rfl | exact .inl rfl)
  ·rcases hk5 with rfl | rfl | rfl | rfl | rfl
   ·cases hd with
    | false =>
     rw [show doesT ⟨S, Q, p, o, u, false, ov⟩ 2 0 i = ⟨(i.a :: S), (i.b :: Q), p, o, u, false, ov⟩ from by simp [doesT, headOff]]
     refine ⟨(upd (.int .i64 i.a) (.v (.bool true))  R), (upd (.int .i64 i.b) (.v (.bool true)) N), hR.add _, hN.add _, callW_own (c := c16) rfl rfl 0 ?_⟩
     rw [v_app, v_len]
     simp only [c16, start, List.replicate, c16_0, c16_1, c16_2, c16_3, c16_4, c16_5, c16_6, c16_7, c16_8, c16_9, c16_10, c16_11, c16_12, c16_13, c16_14, c16_15, c16_16, c16_17, c16_18, c16_19, c16_20, cl, v_bx, v_ld4, v_ld5, v_ld6, v_ld8, v_ld9, v_l0, v_l1, v_l2, v_l4, v_st6, v_st7, v_st8, v_st9, v_st10, v_clr, v_up1, v_up2, ap, x_region_ap, apR_t, e_clrmap, e_mapupd, Q122, Int.reduceBEq, Q0, Q1, Q2, Q3, Q4, Q5, Q6, Q7, Q8, Q9, Q10, Q11, Q12, Q13, Q14, Q15, Q16, Q17, Q18, Q19, Q20, Q21, Q22, Q23, Q24, Q25, Q26, Q27, Q28, Q29, Q30, Q31, Q32, Q33, Q35, Q36, Q37, Q38, Q39, Q40, Q41, Q42, Q43, Q44, Q45, Q46, Q47, Q48, Q49, Q50, Q51, Q52, Q53, Q54, Q55, Q56, Q57, Q58, Q59, Q60, Q61, Q62, Q63, Q64, Q65, Q66, Q67, Q68, Q69, Q70, Q71, Q72, Q73, Q99, Q100, Q101, Q102, Q103, Q74, Q75, Q77, Q78, Q79, Q80, Q81, Q82, Q83, Q84, clr, List.length_nil, List.length_cons, List.getElem?_cons_zero, List.getElem?_cons_succ, Nat.reduceAdd, Nat.zero_add, Nat.add_zero, Nat.reduceLeDiff, Nat.reduceSub, ↓reduceIte, List.drop_succ_cons, List.drop_zero, List.take_succ_cons, List.take_zero, Bool.false_eq_true, List.nil_append, List.cons_append, Bool.not_true, Bool.not_false, cond_true, cond_false, bne, Q85, Q86, Q87, Q88, Q89, Q90, Q91, Q92, Q93, Q94, Q95, Q96, Q97, Q98, Q110, Q111, Q116, Q117, Q118, Q119, Q120, Q121, Q122, Q123, Option.map_some, Option.map_none]
     exact v_leave0 h0 h3 hT rfl _ (by first | exact .inr rfl | exact .inl rfl)
    | true =>
     rw [show doesT ⟨S, Q, p, o, u, true, ov⟩ 2 0 i = ⟨(i.a :: []), (i.b :: Q), p, o, u, false, ov⟩ from by simp [doesT, headOff]]
     refine ⟨(upd (.int .i64 i.a) (.v (.bool true))  (clrR R)), (upd (.int .i64 i.b) (.v (.bool true)) N), (Seen.clr _).add _, hN.add _, callW_own (c := c16) rfl rfl 0 ?_⟩
     rw [v_app, v_len]
     simp only [c16, start, List.replicate, c16_0, c16_1, c16_2, c16_3, c16_4, c16_5, c16_6, c16_7, c16_8, c16_9, c16_10, c16_11, c16_12, c16_13, c16_14, c16_15, c16_16, c16_17, c16_18, c16_19, c16_20, cl, v_bx, v_ld4, v_ld5, v_ld6, v_ld8, v_ld9, v_l0, v_l1, v_l2, v_l4, v_st6, v_st7, v_st8, v_st9, v_st10, v_clr, v_up1, v_up2, ap, x_region_ap, apR_t, e_clrmap, e_mapupd, Q122, Int.reduceBEq, Q0, Q1, Q2, Q3, Q4, Q5, Q6, Q7, Q8, Q9, Q10, Q11, Q12, Q13, Q14, Q15, Q16, Q17, Q18, Q19, Q20, Q21, Q22, Q23, Q24, Q25, Q26, Q27, Q28, Q29, Q30, Q31, Q32, Q33, Q35, Q36, Q37, Q38, Q39, Q40, Q41, Q42, Q43, Q44, Q45, Q46, Q47, Q48, Q49, Q50, Q51, Q52, Q53, Q54, Q55, Q56, Q57, Q58, Q59, Q60, Q61, Q62, Q63, Q64, Q65, Q66, Q67, Q68, Q69, Q70, Q71, Q72, Q73, Q99, Q100, Q101, Q102, Q103, Q74, Q75, Q77, Q78, Q79, Q80, Q81, Q82, Q83, Q84, clr, List.length_nil, List.length_cons, List.getElem?_cons_zero, List.getElem?_cons_succ, Nat.reduceAdd, Nat.zero_add, Nat.add_zero, Nat.reduceLeDiff, Nat.reduceSub, ↓reduceIte, List.drop_succ_cons, List.drop_zero, List.take_succ_cons, List.take_zero, Bool.false_eq_true, List.nil_append, List.cons_append, Bool.not_true, Bool.not_false, cond_true, cond_false, bne, Q85, Q86, Q87, Q88, Q89, Q90, Q91, Q92, Q93, Q94, Q95, Q96, Q97, Q98, Q110, Q111, Q116, Q117, Q118, Q119, Q120, Q121, Q122, Q123, Option.map_some, Option.map_none]
     exact v_leave0 h0 h3 hT rfl _ (by first | exact .inr rfl | exact .inl rfl)
   ·cases hd with
    | false =>
     rw [show doesT ⟨S, Q, p, o, u, false, ov⟩ 2 1 i = ⟨(i.a :: S), Q, p, o, u, false, ov⟩ from by simp [doesT, headOff]]
     refine ⟨(upd (.int .i64 i.a) (.v (.bool true))  R), N, hR.add _, hN, callW_own (c := c16) rfl rfl 0 ?_⟩
     rw [v_app, v_len]
     simp only [c16, start, List.replicate, c16_0, c16_1, c16_2, c16_3, c16_4, c16_5, c16_6, c16_7, c16_8, c16_9, c16_10, c16_11, c16_12, c16_13, c16_14, c16_15, c16_16, c16_17, c16_18, c16_19, c16_20, cl, v_bx, v_ld4, v_ld5, v_ld6, v_ld8, v_ld9, v_l0, v_l1, v_l2, v_l4, v_st6, v_st7, v_st8, v_st9, v_st10, v_clr, v_up1, v_up2, ap, x_region_ap, apR_t, e_clrmap, e_mapupd, Q122, Int.reduceBEq, Q0, Q1, Q2, Q3, Q4, Q5, Q6, Q7, Q8, Q9, Q10, Q11, Q12, Q13, Q14, Q15, Q16, Q17, Q18, Q19, Q20, Q21, Q22, Q23, Q24, Q25, Q26, Q27, Q28, Q29, Q30, Q31, Q32, Q33, Q35, Q36, Q37, Q38, Q39, Q40, Q41, Q42, Q43, Q44, Q45, Q46, Q47, Q48, Q49, Q50, Q51, Q52, Q53, Q54, Q55, Q56, Q57, Q58, Q59, Q60, Q61, Q62, Q63, Q64, Q65, Q66, Q67, Q68, Q69, Q70, Q71, Q72, Q73, Q99, Q100, Q101, Q102, Q103, Q74, Q75, Q77, Q78, Q79, Q80, Q81, Q82, Q83, Q84, clr, List.length_nil, List.length_cons, List.getElem?_cons_zero, List.getElem?_cons_succ, Nat.reduceAdd, Nat.zero_add, Nat.add_zero, Nat.reduceLeDiff, Nat.reduceSub, ↓reduceIte, List.drop_succ_cons, List.drop_zero, List.take_succ_cons, List.take_zero, Bool.false_eq_true, List.nil_append, List.cons_append, Bool.not_true, Bool.not_false, cond_true, cond_false, bne, Q85, Q86, Q87, Q88, Q89, Q90, Q91, Q92, Q93, Q94, Q95, Q96, Q97, Q98, Q110, Q111, Q116, Q117, Q118, Q119, Q120, Q121, Q122, Q123, Option.map_some, Option.map_none]
     exact v_leave0 h0 h3 hT rfl _ (by first | exact .inr rfl | exact .inl rfl)
    | true =>
     rw [show doesT ⟨S, Q, p, o, u, true, ov⟩ 2 1 i = ⟨(i.a :: []), Q, p, o, u, false, ov⟩ from by simp [doesT, headOff]]
     refine ⟨(upd (.int .i64 i.a) (.v (.bool true))  (clrR R)), N, (Seen.clr _).add _, hN, callW_own (c := c16) rfl rfl 0 ?_⟩
     rw [v_app, v_len]
     simp only [c16, start, List.replicate, c16_0, c16_1, c16_2, c16_3, c16_4, c16_5, c16_6, c16_7, c16_8, c16_9, c16_10, c16_11, c16_12, c16_13, c16_14, c16_15, c16_16, c16_17, c16_18, c16_19, c16_20, cl, v_bx, v_ld4, v_ld5, v_ld6, v_ld8, v_ld9, v_l0, v_l1, v_l2, v_l4, v_st6, v_st7, v_st8, v_st9, v_st10, v_clr, v_up1, v_up2, ap, x_region_ap, apR_t, e_clrmap, e_mapupd, Q122, Int.reduceBEq, Q0, Q1, Q2, Q3, Q4, Q5, Q6, Q7, Q8, Q9, Q10, Q11, Q12, Q13, Q14, Q15, Q16, Q17, Q18, Q19, Q20, Q21, Q22, Q23, Q24, Q25, Q26, Q27, Q28, Q29, Q30, Q31, Q32, Q33, Q35, Q36, Q37, Q38, Q39, Q40, Q41, Q42, Q43, Q44, Q45, Q46, Q47, Q48, Q49, Q50, Q51, Q52, Q53, Q54, Q55, Q56, Q57, Q58, Q59, Q60, Q61, Q62, Q63, Q64, Q65, Q66, Q67, Q68, Q69, Q70, Q71, Q72, Q73, Q99, Q100, Q101, Q102, Q103, Q74, Q75, Q77, Q78, Q79, Q80, Q81, Q82, Q83, Q84, clr, List.length_nil, List.length_cons, List.getElem?_cons_zero, List.getElem?_cons_succ, Nat.reduceAdd, Nat.zero_add, Nat.add_zero, Nat.reduceLeDiff, Nat.reduceSub, ↓reduceIte, List.drop_succ_cons, List.drop_zero, List.take_succ_cons, List.take_zero, Bool.false_eq_true, List.nil_append, List.cons_append, Bool.not_true, Bool.not_false, cond_true, cond_false, bne, Q85, Q86, Q87, Q88, Q89, Q90, Q91, Q92, Q93, Q94, Q95, Q96, Q97, Q98, Q110, Q111, Q116, Q117, Q118, Q119, Q120, Q121, Q122, Q123, Option.map_some, Option.map_none]
     exact v_leave0 h0 h3 hT rfl _ (by first | exact .inr rfl | exact .inl rfl)
   ·cases hd with
    | false =>
     rw [show doesT ⟨S, Q, p, o, u, false, ov⟩ 2 2 i = ⟨(i.a :: S), Q, p, o, u, false, ov⟩ from by simp [doesT, headOff]]
     refine ⟨(upd (.int .i64 i.a) (.v (.bool true))  R), N, hR.add _, hN, callW_own (c := c16) rfl rfl 0 ?_⟩
     rw [v_app, v_len]
     simp only [c16, start, List.replicate, c16_0, c16_1, c16_2, c16_3, c16_4, c16_5, c16_6, c16_7, c16_8, c16_9, c16_10, c16_11, c16_12, c16_13, c16_14, c16_15, c16_16, c16_17, c16_18, c16_19, c16_20, cl, v_bx, v_ld4, v_ld5, v_ld6, v_ld8, v_ld9, v_l0, v_l1, v_l2, v_l4, v_st6, v_st7, v_st8, v_st9, v_st10, v_clr, v_up1, v_up2, ap, x_region_ap, apR_t, e_clrmap, e_mapupd, Q122, Int.reduceBEq, Q0, Q1, Q2, Q3, Q4, Q5, Q6, Q7, Q8, Q9, Q10, Q11, Q12, Q13, Q14, Q15, Q16, Q17, Q18, Q19, Q20, Q21, Q22, Q23, Q24, Q25, Q26, Q27, Q28, Q29, Q30, Q31, Q32, Q33, Q35, Q36, Q37, Q38, Q39, Q40, Q41, Q42, Q43, Q44, Q45, Q46, Q47, Q48, Q49, Q50, Q51, Q52, Q53, Q54, Q55, Q56, Q57, Q58, Q59, Q60, Q61, Q62, Q63, Q64, Q65, Q66, Q67, Q68, Q69, Q70, Q71, Q72, Q73, Q99, Q100, Q101, Q102, Q103, Q74, Q75, Q77, Q78, Q79, Q80, Q81, Q82, Q83, Q84, clr, List.length_nil, List.length_cons, List.getElem?_cons_zero, List.getElem?_cons_succ, Nat.reduceAdd, Nat.zero_add, Nat.add_zero, Nat.reduceLeDiff, Nat.reduceSub, ↓reduceIte, List.drop_succ_cons, List.drop_zero, List.take_succ_cons, List.take_zero, Bool.false_eq_true, List.nil_append, List.cons_append, Bool.not_true, Bool.not_false, cond_true, cond_false, bne, Q85, Q86, Q87, Q88, Q89, Q90, Q91, Q92, Q93, Q94, Q95, Q96, Q97, Q98, Q110, Q111, Q116, Q117, Q118, Q119, Q120, Q121, Q122, Q123, Option.map_some, Option.map_none]
     exact v_leave0 h0 h3 hT rfl _ (by first | exact .inr rfl | exact .inl rfl)
    | true =>
     rw [show doesT ⟨S, Q, p, o, u, true, ov⟩ 2 2 i = ⟨(i.a :: []), Q, p, o, u, false, ov⟩ from by simp [doesT, headOff]]
     refine ⟨(upd (.int .i64 i.a) (.v (.bool true))  (clrR R)), N, (Seen.clr _).add _, hN, callW_own (c := c16) rfl rfl 0 ?_⟩
     rw [v_app, v_len]
     simp only [c16, start, List.replicate, c16_0, c16_1, c16_2, c16_3, c16_4, c16_5, c16_6, c16_7, c16_8, c16_9, c16_10, c16_11, c16_12, c16_13, c16_14, c16_15, c16_16, c16_17, c16_18, c16_19, c16_20, cl, v_bx, v_ld4, v_ld5, v_ld6, v_ld8, v_ld9, v_l0, v_l1, v_l2, v_l4, v_st6, v_st7, v_st8, v_st9, v_st10, v_clr, v_up1, v_up2, ap, x_region_ap, apR_t, e_clrmap, e_mapupd, Q122, Int.reduceBEq, Q0, Q1, Q2, Q3, Q4, Q5, Q6, Q7, Q8, Q9, Q10, Q11, Q12, Q13, Q14, Q15, Q16, Q17, Q18, Q19, Q20, Q21, Q22, Q23, Q24, Q25, Q26, Q27, Q28, Q29, Q30, Q31, Q32, Q33, Q35, Q36, Q37, Q38, Q39, Q40, Q41, Q42, Q43, Q44, Q45, Q46, Q47, Q48, Q49, Q50, Q51, Q52, Q53, Q54, Q55, Q56, Q57, Q58, Q59, Q60, Q61, Q62, Q63, Q64, Q65, Q66, Q67, Q68, Q69, Q70, Q71, Q72, Q73, Q99, Q100, Q101, Q102, Q103, Q74, Q75, Q77, Q78, Q79, Q80, Q81, Q82, Q83, Q84, clr, List.length_nil, List.length_cons, List.getElem?_cons_zero, List.getElem?_cons_succ, Nat.reduceAdd, Nat.zero_add, Nat.add_zero, Nat.reduceLeDiff, Nat.reduceSub, ↓reduceIte, List.drop_succ_cons, List.drop_zero, List.take_succ_cons, List.take_zero, Bool.false_eq_true, List.nil_append, List.cons_append, Bool.not_true, Bool.not_false, cond_true, cond_false, bne, Q85, Q86, Q87, Q88, Q89, Q90, Q91, Q92, Q93, Q94, Q95, Q96, Q97, Q98, Q110, Q111, Q116, Q117, Q118, Q119, Q120, Q121, Q122, Q123, Option.map_some, Option.map_none]
     exact v_leave0 h0 h3 hT rfl _ (by first | exact .inr rfl | exact .inl rfl)
   ·cases hd with
    | false =>
     rw [show doesT ⟨S, Q, p, o, u, false, ov⟩ 2 3 i = ⟨(i.a :: S), Q, p, o, u, false, ov⟩ from by simp [doesT, headOff]]
     refine ⟨(upd (.int .i64 i.a) (.v (.bool true))  R), N, hR.add _, hN, callW_own (c := c16) rfl rfl 0 ?_⟩
     rw [v_app, v_len]
     simp only [c16, start, List.replicate, c16_0, c16_1, c16_2, c16_3, c16_4, c16_5, c16_6, c16_7, c16_8, c16_9, c16_10, c16_11, c16_12, c16_13, c16_14, c16_15, c16_16, c16_17, c16_18, c16_19, c16_20, cl, v_bx, v_ld4, v_ld5, v_ld6, v_ld8, v_ld9, v_l0, v_l1, v_l2, v_l4, v_st6, v_st7, v_st8, v_st9, v_st10, v_clr, v_up1, v_up2, ap, x_region_ap, apR_t, e_clrmap, e_mapupd, Q122, Int.reduceBEq, Q0, Q1, Q2, Q3, Q4, Q5, Q6, Q7, Q8, Q9, Q10, Q11, Q12, Q13, Q14, Q15, Q16, Q17, Q18, Q19, Q20, Q21, Q22, Q23, Q24, Q25, Q26, Q27, Q28, Q29, Q30, Q31, Q32, Q33, Q35, Q36, Q37, Q38, Q39, Q40, Q41, Q42, Q43, Q44, Q45, Q46, Q47, Q48, Q49, Q50, Q51, Q52, Q53, Q54, Q55, Q56, Q57, Q58, Q59, Q60, Q61, Q62, Q63, Q64, Q65, Q66, Q67, Q68, Q69, Q70, Q71, Q72, Q73, Q99, Q100, Q101, Q102, Q103, Q74, Q75, Q77, Q78, Q79, Q80, Q81, Q82, Q83, Q84, clr, List.length_nil, List.length_cons, List.getElem?_cons_zero, List.getElem?_cons_succ, Nat.reduceAdd, Nat.zero_add, Nat.add_zero, Nat.reduceLeDiff, Nat.reduceSub, ↓reduceIte, List.drop_succ_cons, List.drop_zero, List.take_succ_cons, List.take_zero, Bool.false_eq_true, List.nil_append, List.cons_append, Bool.not_true, Bool.not_false, cond_true, cond_false, bne, Q85, Q86, Q87, Q88, Q89, Q90, Q91, Q92, Q93, Q94, Q95, Q96, Q97, Q98, Q110, Q111, Q116, Q117, Q118, Q119, Q120, Q121, Q122, Q123, Option.map_some, Option.map_none]
     exact v_leave0 h0 h3 hT rfl _ (by first | exact .inr rfl | exact .inl rfl)
    | true =>
     rw [show doesT ⟨S, Q, p, o, u, true, ov⟩ 2 3 i = ⟨(i.a :: []), Q, p, o, u, false, ov⟩ from by simp [doesT, headOff]]
     refine ⟨(upd (.int .i64 i.a) (.v (.bool true))  (clrR R)), N, (Seen.clr _).add _, hN, callW_own (c := c16) rfl rfl 0 ?_⟩
     rw [v_app, v_len]
     simp only [c16, start, List.replicate, c16_0, c16_1, c16_2, c16_3, c16_4, c16_5, c16_6, c16_7, c16_8, c16_9, c16_10, c16_11, c16_12, c16_13, c16_14, c16_15, c16_16, c16_17, c16_18, c16_19, c16_20, cl, v_bx, v_ld4, v_ld5, v_ld6, v_ld8, v_ld9, v_l0, v_l1, v_l2, v_l4, v_st6, v_st7, v_st8, v_st9, v_st10, v_clr, v_up1, v_up2, ap, x_region_ap, apR_t, e_clrmap, e_mapupd, Q122, Int.reduceBEq, Q0, Q1, Q2, Q3, Q4, Q5, Q6, Q7, Q8, Q9, Q10, Q11, Q12, Q13, Q14, Q15, Q16, Q17, Q18, Q19, Q20, Q21, Q22, Q23, Q24, Q25, Q26, Q27, Q28, Q29, Q30, Q31, Q32, Q33, Q35, Q36, Q37, Q38, Q39, Q40, Q41, Q42, Q43, Q44, Q45, Q46, Q47, Q48, Q49, Q50, Q51, Q52, Q53, Q54, Q55, Q56, Q57, Q58, Q59, Q60, Q61, Q62, Q63, Q64, Q65, Q66, Q67, Q68, Q69, Q70, Q71, Q72, Q73, Q99, Q100, Q101, Q102, Q103, Q74, Q75, Q77, Q78, Q79, Q80, Q81, Q82, Q83, Q84, clr, List.length_nil, List.length_cons, List.getElem?_cons_zero, List.getElem?_cons_succ, Nat.reduceAdd, Nat.zero_add, Nat.add_zero, Nat.reduceLeDiff, Nat.reduceSub, ↓reduceIte, List.drop_succ_cons, List.drop_zero, List.take_succ_cons, List.take_zero, Bool.false_eq_true, List.nil_append, List.cons_append, Bool.not_true, Bool.not_false, cond_true, cond_false, bne, Q85, Q86, Q87, Q88, Q89, Q90, Q91, Q92, Q93, Q94, Q95, Q96, Q97, Q98, Q110, Q111, Q116, Q117, Q118, Q119, Q120, Q121, Q122, Q123, Option.map_some, Option.map_none]
     exact v_leave0 h0 h3 hT rfl _ (by first | exact .inr rfl | exact .inl rfl)
   ·cases hd with
    | false =>
     rw [show doesT ⟨S, Q, p, o, u, false, ov⟩ 2 4 i = ⟨S, Q, i.n, 2, i.a, false, ov⟩ from by simp [doesT, headOff]]
     refine ⟨R, N, hR, hN, callW_own (c := c16) rfl rfl 0 ?_⟩
     rw [v_app, v_len]
     simp only [c16, start, List.replicate, c16_0, c16_1, c16_2, c16_3, c16_4, c16_5, c16_6, c16_7, c16_8, c16_9, c16_10, c16_11, c16_12, c16_13, c16_14, c16_15, c16_16, c16_17, c16_18, c16_19, c16_20, cl, v_bx, v_ld4, v_ld5, v_ld6, v_ld8, v_ld9, v_l0, v_l1, v_l2, v_l4, v_st6, v_st7, v_st8, v_st9, v_st10, v_clr, v_up1, v_up2, ap, x_region_ap, apR_t, e_clrmap, e_mapupd, Q122, Int.reduceBEq, Q0, Q1, Q2, Q3, Q4, Q5, Q6, Q7, Q8, Q9, Q10, Q11, Q12, Q13, Q14, Q15, Q16, Q17, Q18, Q19, Q20, Q21, Q22, Q23, Q24, Q25, Q26, Q27, Q28, Q29, Q30, Q31, Q32, Q33, Q35, Q36, Q37, Q38, Q39, Q40, Q41, Q42, Q43, Q44, Q45, Q46, Q47, Q48, Q49, Q50, Q51, Q52, Q53, Q54, Q55, Q56, Q57, Q58, Q59, Q60, Q61, Q62, Q63, Q64, Q65, Q66, Q67, Q68, Q69, Q70, Q71, Q72, Q73, Q99, Q100, Q101, Q102, Q103, Q74, Q75, Q77, Q78, Q79, Q80, Q81, Q82, Q83, Q84, clr, List.length_nil, List.length_cons, List.getElem?_cons_zero, List.getElem?_cons_succ, Nat.reduceAdd, Nat.zero_add, Nat.add_zero, Nat.reduceLeDiff, Nat.reduceSub, ↓reduceIte, List.drop_succ_cons, List.drop_zero, List.take_succ_cons, List.take_zero, Bool.false_eq_true, List.nil_append, List.cons_append, Bool.not_true, Bool.not_false, cond_true, cond_false, bne, Q85, Q86, Q87, Q88, Q89, Q90, Q91, Q92, Q93, Q94, Q95, Q96, Q97, Q98, Q110, Q111, Q116, Q117, Q118, Q119, Q120, Q121, Q122, Q123, Option.map_some, Option.map_none]
     exact v_leave0 h0 h3 hT rfl _ (by first | exact .inr rfl | exact .inl rfl)
    | true =>
     rw [show doesT ⟨S, Q, p, o, u, true, ov⟩ 2 4 i = ⟨[], Q, i.n, 2, i.a, false, ov⟩ from by simp [doesT, headOff]]
     refine ⟨clrR R, N, (Seen.clr _), hN, callW_own (c := c16) rfl rfl 0 ?_⟩
     rw [v_app, v_len]
     simp only [c16, start, List.replicate, c16_0, c16_1, c16_2, c16_3, c16_4, c16_5, c16_6, c16_7, c16_8, c16_9, c16_10, c16_11, c16_12, c16_13, c16_14, c16_15, c16_16, c16_17, c16_18, c16_19, c16_20, cl, v_bx, v_ld4, v_ld5, v_ld6, v_ld8, v_ld9, v_l0, v_l1, v_l2, v_l4, v_st6, v_st7, v_st8, v_st9, v_st10, v_clr, v_up1, v_up2, ap, x_region_ap, apR_t, e_clrmap, e_mapupd, Q122, Int.reduceBEq, Q0, Q1, Q2, Q3, Q4, Q5, Q6, Q7, Q8, Q9, Q10, Q11, Q12, Q13, Q14, Q15, Q16, Q17, Q18, Q19, Q20, Q21, Q22, Q23, Q24, Q25, Q26, Q27, Q28, Q29, Q30, Q31, Q32, Q33, Q35, Q36, Q37, Q38, Q39, Q40, Q41, Q42, Q43, Q44, Q45, Q46, Q47, Q48, Q49, Q50, Q51, Q52, Q53, Q54, Q55, Q56, Q57, Q58, Q59, Q60, Q61, Q62, Q63, Q64, Q65, Q66, Q67, Q68, Q69, Q70, Q71, Q72, Q73, Q99, Q100, Q101, Q102, Q103, Q74, Q75, Q77, Q78, Q79, Q80, Q81, Q82, Q83, Q84, clr, List.length_nil, List.length_cons, List.getElem?_cons_zero, List.getElem?_cons_succ, Nat.reduceAdd, Nat.zero_add, Nat.add_zero, Nat.reduceLeDiff, Nat.reduceSub, ↓reduceIte, List.drop_succ_cons, List.drop_zero, List.take_succ_cons, List.take_zero, Bool.false_eq_true, List.nil_append, List.cons_append, Bool.not_true, Bool.not_false, cond_true, cond_false, bne, Q85, Q86, Q87, Q88, Q89, Q90, Q91, Q92, Q93, Q94, Q95, Q96, Q97, Q98, Q110, Q111, Q116, Q117, Q118, Q119, Q120, Q121, Q122, Q123, Option.map_some, Option.map_none]
     exact v_leave0 h0 h3 hT rfl _ (by first | exact .inr rfl | exact .inl rfl)
  ·rcases hk5 with rfl | rfl | rfl | rfl | rfl
   ·by_cases hz' : IntKind.i64.wrap (p - 1) = 0
    ·have hz : (IntKind.i64.wrap (p - 1) == 0) = true := by simp [hz']
     cases hd with
     | false =>
      rw [show doesT ⟨S, Q, p, o, u, false, ov⟩ 3 0 i = ⟨(u :: S), (i.b :: Q), (IntKind.i64.wrap (p - 1)), o, u, false, ov⟩ from by simp [doesT, headOff, hz']]
      refine ⟨(upd (.int .i64 u) (.v (.bool true)) R), (upd (.int .i64 i.b) (.v (.bool true)) N), hR.add _, hN.add _, callW_own (c := c16) rfl rfl 0 ?_⟩
      rw [v_app, v_len]
      simp only [c16, start, List.replicate, c16_0, c16_1, c16_2, c16_3, c16_4, c16_5, c16_6, c16_7, c16_8, c16_9, c16_10, c16_11, c16_12, c16_13, c16_14, c16_15, c16_16, c16_17, c16_18, c16_19, c16_20, cl, v_bx, v_ld4, v_ld5, v_ld6, v_ld8, v_ld9, v_l0, v_l1, v_l2, v_l4, v_st6, v_st7, v_st8, v_st9, v_st10, v_clr, v_up1, v_up2, ap, x_region_ap, apR_t, e_clrmap, e_mapupd, Q122, Int.reduceBEq, Q0, Q1, Q2, Q3, Q4, Q5, Q6, Q7, Q8, Q9, Q10, Q11, Q12, Q13, Q14, Q15, Q16, Q17, Q18, Q19, Q20, Q21, Q22, Q23, Q24, Q25, Q26, Q27, Q28, Q29, Q30, Q31, Q32, Q33, Q35, Q36, Q37, Q38, Q39, Q40, Q41, Q42, Q43, Q44, Q45, Q46, Q47, Q48, Q49, Q50, Q51, Q52, Q53, Q54, Q55, Q56, Q57, Q58, Q59, Q60, Q61, Q62, Q63, Q64, Q65, Q66, Q67, Q68, Q69, Q70, Q71, Q72, Q73, Q99, Q100, Q101, Q102, Q103, Q74, Q75, Q77, Q78, Q79, Q80, Q81, Q82, Q83, Q84, clr, List.length_nil, List.length_cons, List.getElem?_cons_zero, List.getElem?_cons_succ, Nat.reduceAdd, Nat.zero_add, Nat.add_zero, Nat.reduceLeDiff, Nat.reduceSub, ↓reduceIte, List.drop_succ_cons, List.drop_zero, List.take_succ_cons, List.take_zero, Bool.false_eq_true, List.nil_append, List.cons_append, Bool.not_true, Bool.not_false, cond_true, cond_false, bne, Q85, Q86, Q87, Q88, Q89, Q90, Q91, Q92, Q93, Q94, Q95, Q96, Q97, Q98, Q110, Q111, Q116, Q117, Q118, Q119, Q120, Q121, Q122, Q123, Option.map_some, Option.map_none, hz]
      exact v_leave0 h0 h3 hT rfl _ (by first | exact .inr rfl | exact .inl rfl)
     | true =>
      rw [show doesT ⟨S, Q, p, o, u, true, ov⟩ 3 0 i = ⟨(u :: S), (i.b :: Q), (IntKind.i64.wrap (p - 1)), o, u, true, ov⟩ from by simp [doesT, headOff, hz']]
      refine ⟨(upd (.int .i64 u) (.v (.bool true)) R), (upd (.int .i64 i.b) (.v (.bool true)) N), hR.add _, hN.add _, callW_own (c := c16) rfl rfl 0 ?_⟩
      rw [v_app, v_len]
      simp only [c16, start, List.replicate, c16_0, c16_1, c16_2, c16_3, c16_4, c16_5, c16_6, c16_7, c16_8, c16_9, c16_10, c16_11, c16_12, c16_13, c16_14, c16_15, c16_16, c16_17, c16_18, c16_19, c16_20, cl, v_bx, v_ld4, v_ld5, v_ld6, v_ld8, v_ld9, v_l0, v_l1, v_l2, v_l4, v_st6, v_st7, v_st8, v_st9, v_st10, v_clr, v_up1, v_up2, ap, x_region_ap, apR_t, e_clrmap, e_mapupd, Q122, Int.reduceBEq, Q0, Q1, Q2, Q3, Q4, Q5, Q6, Q7, Q8, Q9, Q10, Q11, Q12, Q13, Q14, Q15, Q16, Q17, Q18, Q19, Q20, Q21, Q22, Q23, Q24, Q25, Q26, Q27, Q28, Q29, Q30, Q31, Q32, Q33, Q35, Q36, Q37, Q38, Q39, Q40, Q41, Q42, Q43, Q44, Q45, Q46, Q47, Q48, Q49, Q50, Q51, Q52, Q53, Q54, Q55, Q56, Q57, Q58, Q59, Q60, Q61, Q62, Q63, Q64, Q65, Q66, Q67, Q68, Q69, Q70, Q71, Q72, Q73, Q99, Q100, Q101, Q102, Q103, Q74, Q75, Q77, Q78, Q79, Q80, Q81, Q82, Q83, Q84, clr, List.length_nil, List.length_cons, List.getElem?_cons_zero, List.getElem?_cons_succ, Nat.reduceAdd, Nat.zero_add, Nat.add_zero, Nat.reduceLeDiff, Nat.reduceSub, ↓reduceIte, List.drop_succ_cons, List.drop_zero, List.take_succ_cons, List.take_zero, Bool.false_eq_true, List.nil_append, List.cons_append, Bool.not_true, Bool.not_false, cond_true, cond_false, bne, Q85, Q86, Q87, Q88, Q89, Q90, Q91, Q92, Q93, Q94, Q95, Q96, Q97, Q98, Q110, Q111, Q116, Q117, Q118, Q119, Q120, Q121, Q122, Q123, Option.map_some, Option.map_none, hz]
      exact v_leave0 h0 h3 hT rfl _ (by first | exact .inr rfl | exact .inl rfl)
    ·have hz : (IntKind.i64.wrap (p - 1) == 0) = false := by simp [hz']
     cases hd with
     | false =>
      rw [show doesT ⟨S, Q, p, o, u, false, ov⟩ 3 0 i = ⟨S, (i.b :: Q), (IntKind.i64.wrap (p - 1)), o, u, false, ov⟩ from by simp [doesT, headOff, hz']]
      refine ⟨R, (upd (.int .i64 i.b) (.v (.bool true)) N), hR, hN.add _, callW_own (c := c16) rfl rfl 0 ?_⟩
      rw [v_app, v_len]
      simp only [c16, start, List.replicate, c16_0, c16_1, c16_2, c16_3, c16_4, c16_5, c16_6, c16_7, c16_8, c16_9, c16_10, c16_11, c16_12, c16_13, c16_14, c16_15, c16_16, c16_17, c16_18, c16_19, c16_20, cl, v_bx, v_ld4, v_ld5, v_ld6, v_ld8, v_ld9, v_l0, v_l1, v_l2, v_l4, v_st6, v_st7, v_st8, v_st9, v_st10, v_clr, v_up1, v_up2, ap, x_region_ap, apR_t, e_clrmap, e_mapupd, Q122, Int.reduceBEq, Q0, Q1, Q2, Q3, Q4, Q5, Q6, Q7, Q8, Q9, Q10, Q11, Q12, Q13, Q14, Q15, Q16, Q17, Q18, Q19, Q20, Q21, Q22, Q23, Q24, Q25, Q26, Q27, Q28, Q29, Q30, Q31, Q32, Q33, Q35, Q36, Q37, Q38, Q39, Q40, Q41, Q42, Q43, Q44, Q45, Q46, Q47, Q48, Q49, Q50, Q51, Q52, Q53, Q54, Q55, Q56, Q57, Q58, Q59, Q60, Q61, Q62, Q63, Q64, Q65, Q66, Q67, Q68, Q69, Q70, Q71, Q72, Q73, Q99, Q100, Q101, Q102, Q103, Q74, Q75, Q77, Q78, Q79, Q80, Q81, Q82, Q83, Q84, clr, List.length_nil, List.length_cons, List.getElem?_cons_zero, List.getElem?_cons_succ, Nat.reduceAdd, Nat.zero_add, Nat.add_zero, Nat.reduceLeDiff, Nat.reduceSub, ↓reduceIte, List.drop_succ_cons, List.drop_zero, List.take_succ_cons, List.take_zero, Bool.false_eq_true, List.nil_append, List.cons_append, Bool.not_true, Bool.not_false, cond_true, cond_false, bne, Q85, Q86, Q87, Q88, Q89, Q90, Q91, Q92, Q93, Q94, Q95, Q96, Q97, Q98, Q110, Q111, Q116, Q117, Q118, Q119, Q120, Q121, Q122, Q123, Option.map_some, Option.map_none, hz]
      exact v_leave0 h0 h3 hT rfl _ (by first | exact .inr rfl | exact .inl rfl)
     | true =>
      rw [show doesT ⟨S, Q, p, o, u, true, ov⟩ 3 0 i = ⟨S, (i.b :: Q), (IntKind.i64.wrap (p - 1)), o, u, true, ov⟩ from by simp [doesT, headOff, hz']]
      refine ⟨R, (upd (.int .i64 i.b) (.v (.bool true)) N), hR, hN.add _, callW_own (c := c16) rfl rfl 0 ?_⟩
      rw [v_app, v_len]
      simp only [c16, start, List.replicate, c16_0, c16_1, c16_2, c16_3, c16_4, c16_5, c16_6, c16_7, c16_8, c16_9, c16_10, c16_11, c16_12, c16_13, c16_14, c16_15, c16_16, c16_17, c16_18, c16_19, c16_20, cl, v_bx, v_ld4, v_ld5, v_ld6, v_ld8, v_ld9, v_l0, v_l1, v_l2, v_l4, v_st6, v_st7, v_st8, v_st9, v_st10, v_clr, v_up1, v_up2, ap, x_region_ap, apR_t, e_clrmap, e_mapupd, Q122, Int.reduceBEq, Q0, Q1, Q2, Q3, Q4, Q5, Q6, Q7, Q8, Q9, Q10, Q11, Q12, Q13, Q14, Q15, Q16, Q17, Q18, Q19, Q20, Q21, Q22, Q23, Q24, Q25, Q26, Q27, Q28, Q29, Q30, Q31, Q32, Q33, Q35, Q36, Q37, Q38, Q39, Q40, Q41, Q42, Q43, Q44, Q45, Q46, Q47, Q48, Q49, Q50, Q51, Q52, Q53, Q54, Q55, Q56, Q57, Q58, Q59, Q60, Q61, Q62, Q63, Q64, Q65, Q66, Q67, Q68, Q69, Q70, Q71, Q72, Q73, Q99, Q100, Q101, Q102, Q103, Q74, Q75, Q77, Q78, Q79, Q80, Q81, Q82, Q83, Q84, clr, List.length_nil, List.length_cons, List.getElem?_cons_zero, List.getElem?_cons_succ, Nat.reduceAdd, Nat.zero_add, Nat.add_zero, Nat.reduceLeDiff, Nat.reduceSub, ↓reduceIte, List.drop_succ_cons, List.drop_zero, List.take_succ_cons, List.take_zero, Bool.false_eq_true, List.nil_append, List.cons_append, Bool.not_true, Bool.not_false, cond_true, cond_false, bne, Q85, Q86, Q87, Q88, Q89, Q90, Q91, Q92, Q93, Q94, Q95, Q96, Q97, Q98, Q110, Q111, Q116, Q117, Q118, Q119, Q120, Q121, Q122, Q123, Option.map_some, Option.map_none, hz]
      exact v_leave0 h0 h3 hT rfl _ (by first | exact .inr rfl | exact .inl rfl)
   ·by_cases hz' : IntKind.i64.wrap (p - 1) = 0
    ·have hz : (IntKind.i64.wrap (p - 1) == 0) = true := by simp [hz']
     cases hd with
     | false =>
      rw [show doesT ⟨S, Q, p, o, u, false, ov⟩ 3 1 i = ⟨(u :: S), Q, (IntKind.i64.wrap (p - 1)), o, u, false, ov⟩ from by simp [doesT, headOff, hz']]
      refine ⟨(upd (.int .i64 u) (.v (.bool true)) R), N, hR.add _, hN, callW_own (c := c16) rfl rfl 0 ?_⟩
      rw [v_app, v_len]
      simp only [c16, start, List.replicate, c16_0, c16_1, c16_2, c16_3, c16_4, c16_5, c16_6, c16_7, c16_8, c16_9, c16_10, c16_11, c16_12, c16_13, c16_14, c16_15, c16_16, c16_17, c16_18, c16_19, c16_20, cl, v_bx, v_ld4, v_ld5, v_ld6, v_ld8, v_ld9, v_l0, v_l1, v_l2, v_l4, v_st6, v_st7, v_st8, v_st9, v_st10, v_clr, v_up1, v_up2, ap, x_region_ap, apR_t, e_clrmap, e_mapupd, Q122, Int.reduceBEq, Q0, Q1, Q2, Q3, Q4, Q5, Q6, Q7, Q8, Q9, Q10, Q11, Q12, Q13, Q14, Q15, Q16, Q17, Q18, Q19, Q20, Q21, Q22, Q23, Q24, Q25, Q26, Q27, Q28, Q29, Q30, Q31, Q32, Q33, Q35, Q36, Q37, Q38, Q39, Q40, Q41, Q42, Q43, Q44, Q45, Q46, Q47, Q48, Q49, Q50, Q51, Q52, Q53, Q54, Q55, Q56, Q57, Q58, Q59, Q60, Q61, Q62, Q63, Q64, Q65, Q66, Q67, Q68, Q69, Q70, Q71, Q72, Q73, Q99, Q100, Q101, Q102, Q103, Q74, Q75, Q77, Q78, Q79, Q80, Q81, Q82, Q83, Q84, clr, List.length_nil, List.length_cons, List.getElem?_cons_zero, List.getElem?_cons_succ, Nat.reduceAdd, Nat.zero_add, Nat.add_zero, Nat.reduceLeDiff, Nat.reduceSub, ↓reduceIte, List.drop_succ_cons, List.drop_zero, List.take_succ_cons, List.take_zero, Bool.false_eq_true, List.nil_append, List.cons_append, Bool.not_true, Bool.not_false, cond_true, cond_false, bne, Q85, Q86, Q87, Q88, Q89, Q90, Q91, Q92, Q93, Q94, Q95, Q96, Q97, Q98, Q110, Q111, Q116, Q117, Q118, Q119, Q120, Q121, Q122, Q123, Option.map_some, Option.map_none, hz]
      exact v_leave0 h0 h3 hT rfl _ (by first | exact .inr rfl | exact .inl rfl)
     | true =>
      rw [show doesT ⟨S, Q, p, o, u, true, ov⟩ 3 1 i = ⟨(u :: S), Q, (IntKind.i64.wrap (p - 1)), o, u, true, ov⟩ from by simp [doesT, headOff, hz']]
      refine ⟨(upd (.int .i64 u) (.v (.bool true)) R), N, hR.add _, hN, callW_own (c := c16) rfl rfl 0 ?_⟩
      rw [v_app, v_len]
      simp only [c16, start, List.replicate, c16_0, c16_1, c16_2, c16_3, c16_4, c16_5, c16_6, c16_7, c16_8, c16_9, c16_10, c16_11, c16_12, c16_13, c16_14, c16_15, c16_16, c16_17, c16_18, c16_19, c16_20, cl, v_bx, v_ld4, v_ld5, v_ld6, v_ld8, v_ld9, v_l0, v_l1, v_l2, v_l4, v_st6, v_st7, v_st8, v_st9, v_st10, v_clr, v_up1, v_up2, ap, x_region_ap, apR_t, e_clrmap, e_mapupd, Q122, Int.reduceBEq, Q0, Q1, Q2, Q3, Q4, Q5, Q6, Q7, Q8, Q9, Q10, Q11, Q12, Q13, Q14, Q15, Q16, Q17, Q18, Q19, Q20, Q21, Q22, Q23, Q24, Q25, Q26, Q27, Q28, Q29, Q30, Q31, Q32, Q33, Q35, Q36, Q37, Q38, Q39, Q40, Q41, Q42, Q43, Q44, Q45, Q46, Q47, Q48, Q49, Q50, Q51, Q52, Q53, Q54, Q55, Q56, Q57, Q58, Q59, Q60, Q61, Q62, Q63, Q64, Q65, Q66, Q67, Q68, Q69, Q70, Q71, Q72, Q73, Q99, Q100, Q101, Q102, Q103, Q74, Q75, Q77, Q78, Q79, Q80, Q81, Q82, Q83, Q84, clr, List.length_nil, List.length_cons, List.getElem?_cons_zero, List.getElem?_cons_succ, Nat.reduceAdd, Nat.zero_add, Nat.add_zero, Nat.reduceLeDiff, Nat.reduceSub, ↓reduceIte, List.drop_succ_cons, List.drop_zero, List.take_succ_cons, List.take_zero, Bool.false_eq_true, List.nil_append, List.cons_append, Bool.not_true, Bool.not_false, cond_true, cond_false, bne, Q85, Q86, Q87, Q88, Q89, Q90, Q91, Q92, Q93, Q94, Q95, Q96, Q97, Q98, Q110, Q111, Q116, Q117, Q118, Q119, Q120, Q121, Q122, Q123, Option.map_some, Option.map_none, hz]
      exact v_leave0 h0 h3 hT rfl _ (by first | exact .inr rfl | exact .inl rfl)
    ·have hz : (IntKind.i64.wrap (p - 1) == 0) = false := by simp [hz']
     cases hd with
     | false =>
      rw [show doesT ⟨S, Q, p, o, u, false, ov⟩ 3 1 i = ⟨S, Q, (IntKind.i64.wrap (p - 1)), o, u, false, ov⟩ from by simp [doesT, headOff, hz']]
      refine ⟨R, N, hR, hN, callW_own (c := c16) rfl rfl 0 ?_⟩
      rw [v_app, v_len]
      simp only [c16, start, List.replicate, c16_0, c16_1, c16_2, c16_3, c16_4, c16_5, c16_6, c16_7, c16_8, c16_9, c16_10, c16_11, c16_12, c16_13, c16_14, c16_15, c16_16, c16_17, c16_18, c16_19, c16_20, cl, v_bx, v_ld4, v_ld5, v_ld6, v_ld8, v_ld9, v_l0, v_l1, v_l2, v_l4, v_st6, v_st7, v_st8, v_st9, v_st10, v_clr, v_up1, v_up2, ap, x_region_ap, apR_t, e_clrmap, e_mapupd, Q122, Int.reduceBEq, Q0, Q1, Q2, Q3, Q4, Q5, Q6, Q7, Q8, Q9, Q10, Q11, Q12, Q13, Q14, Q15, Q16, Q17, Q18, Q19, Q20, Q21, Q22, Q23, Q24, Q25, Q26, Q27, Q28, Q29, Q30, Q31, Q32, Q33, Q35, Q36, Q37, Q38, Q39, Q40, Q41, Q42, Q43, Q44, Q45, Q46, Q47, Q48, Q49, Q50, Q51, Q52, Q53, Q54, Q55, Q56, Q57, Q58, Q59, Q60, Q61, Q62, Q63, Q64, Q65, Q66, Q67, Q68, Q69, Q70, Q71, Q72, Q73, Q99, Q100, Q101, Q102, Q103, Q74, Q75, Q77, Q78, Q79, Q80, Q81, Q82, Q83, Q84, clr, List.length_nil, List.length_cons, List.getElem?_cons_zero, List.getElem?_cons_succ, Nat.reduceAdd, Nat.zero_add, Nat.add_zero, Nat.reduceLeDiff, Nat.reduceSub, ↓reduceIte, List.drop_succ_cons, List.drop_zero, List.take_succ_cons, List.take_zero, Bool.false_eq_true, List.nil_append, List.cons_append, Bool.not_true, Bool.not_false, cond_true, cond_false, bne, Q85, Q86, Q87, Q88, Q89, Q90, Q91, Q92, Q93, Q94, Q95, Q96, Q97, Q98, Q110, Q111, Q116, Q117, Q118, Q119, Q120, Q121, Q122, Q123, Option.map_some, Option.map_none, hz]
      exact v_leave0 h0 h3 hT rfl _ (by first | exact .inr rfl | exact .inl rfl)
     | true =>
      rw [show doesT ⟨S, Q, p, o, u, true, ov⟩ 3 1 i = ⟨S, Q, (IntKind.i64.wrap (p - 1)), o, u, true, ov⟩ from by simp [doesT, headOff, hz']]
      refine ⟨R, N, hR, hN, callW_own (c := c16) rfl rfl 0 ?_⟩
      rw [v_app, v_len]
      simp only [c16, start, List.replicate, c16_0, c16_1, c16_2, c16_3, c16_4, c16_5, c16_6, c16_7, c16_8, c16_9, c16_10, c16_11, c16_12, c16_13, c16_14, c16_15, c16_16, c16_17, c16_18, c16_19, c16_20, cl, v_bx, v_ld4, v_ld5, v_ld6, v_ld8, v_ld9, v_l0, v_l1, v_l2, v_l4, v_st6, v_st7, v_st8, v_st9, v_st10, v_clr, v_up1, v_up2, ap, x_region_ap, apR_t, e_clrmap, e_mapupd, Q122, Int.reduceBEq, Q0, Q1, Q2, Q3, Q4, Q5, Q6, Q7, Q8, Q9, Q10, Q11, Q12, Q13, Q14, Q15, Q16, Q17, Q18, Q19, Q20, Q21, Q22, Q23, Q24, Q25, Q26, Q27, Q28, Q29, Q30, Q31, Q32, Q33, Q35, Q36, Q37, Q38, Q39, Q40, Q41, Q42, Q43, Q44, Q45, Q46, Q47, Q48, Q49, Q50, Q51, Q52, Q53, Q54, Q55, Q56, Q57, Q58, Q59, Q60, Q61, Q62, Q63, Q64, Q65, Q66, Q67, Q68, Q69, Q70, Q71, Q72, Q73, Q99, Q100, Q101, Q102, Q103, Q74, Q75, Q77, Q78, Q79, Q80, Q81, Q82, Q83, Q84, clr, List.length_nil, List.length_cons, List.getElem?_cons_zero, List.getElem?_cons_succ, Nat.reduceAdd, Nat.zero_add, Nat.add_zero, Nat.reduceLeDiff, Nat.reduceSub, ↓reduceIte, List.drop_succ_cons, List.drop_zero, List.take_succ_cons, List.take_zero, Bool.false_eq_true, List.nil_append, List.cons_append, Bool.not_true, Bool.not_false, cond_true, cond_false, bne, Q85, Q86, Q87, Q88, Q89, Q90, Q91, Q92, Q93, Q94, Q95, Q96, Q97, Q98, Q110, Q111, Q116, Q117, Q118, Q119, Q120, Q121, Q122, Q123, Option.map_some, Option.map_none, hz]
      exact v_leave0 h0 h3 hT rfl _ (by first | exact .inr rfl | exact .inl rfl)
   ·by_cases hz' : IntKind.i64.wrap (p - 1) = 0
    ·have hz : (IntKind.i64.wrap (p - 1) == 0) = true := by simp [hz']
     cases hd with
     | false =>
      rw [show doesT ⟨S, Q, p, o, u, false, ov⟩ 3 2 i = ⟨(u :: S), Q, (IntKind.i64.wrap (p - 1)), o, u, false, ov⟩ from by simp [doesT, headOff, hz']]
      refine ⟨(upd (.int .i64 u) (.v (.bool true)) R), N, hR.add _, hN, callW_own (c := c16) rfl rfl 0 ?_⟩
      rw [v_app, v_len]
      simp only [c16, start, List.replicate, c16_0, c16_1, c16_2, c16_3, c16_4, c16_5, c16_6, c16_7, c16_8, c16_9, c16_10, c16_11, c16_12, c16_13, c16_14, c16_15, c16_16, c16_17, c16_18, c16_19, c16_20, cl, v_bx, v_ld4, v_ld5, v_ld6, v_ld8, v_ld9, v_l0, v_l1, v_l2, v_l4, v_st6, v_st7, v_st8, v_st9, v_st10, v_clr, v_up1, v_up2, ap, x_region_ap, apR_t, e_clrmap, e_mapupd, Q122, Int.reduceBEq, Q0, Q1, Q2, Q3, Q4, Q5, Q6, Q7, Q8, Q9, Q10, Q11, Q12, Q13, Q14, Q15, Q16, Q17, Q18, Q19, Q20, Q21, Q22, Q23, Q24, Q25, Q26, Q27, Q28, Q29, Q30, Q31, Q32, Q33, Q35, Q36, Q37, Q38, Q39, Q40, Q41, Q42, Q43, Q44, Q45, Q46, Q47, Q48, Q49, Q50, Q51, Q52, Q53, Q54, Q55, Q56, Q57, Q58, Q59, Q60, Q61, Q62, Q63, Q64, Q65, Q66, Q67, Q68, Q69, Q70, Q71, Q72, Q73, Q99, Q100, Q101, Q102, Q103, Q74, Q75, Q77, Q78, Q79, Q80, Q81, Q82, Q83, Q84, clr, List.length_nil, List.length_cons, List.getElem?_cons_zero, List.getElem?_cons_succ, Nat.reduceAdd, Nat.zero_add, Nat.add_zero, Nat.reduceLeDiff, Nat.reduceSub, ↓reduceIte, List.drop_succ_cons, List.drop_zero, List.take_succ_cons, List.take_zero, Bool.false_eq_true, List.nil_append, List.cons_append, Bool.not_true, Bool.not_false, cond_true, cond_false, bne, Q85, Q86, Q87, Q88, Q89, Q90, Q91, Q92, Q93, Q94, Q95, Q96, Q97, Q98, Q110, Q111, Q116, Q117, Q118, Q119, Q120, Q121, Q122, Q123, Option.map_some, Option.map_none, hz]
      exact v_leave0 h0 h3 hT rfl _ (by first | exact .inr rfl | exact .inl rfl)
     | true =>
      rw [show doesT ⟨S, Q, p, o, u, true, ov⟩ 3 2 i = ⟨(u :: S), Q, (IntKind.i64.wrap (p - 1)), o, u, true, ov⟩ from by simp [doesT, headOff, hz']]
      refine ⟨(upd (.int .i64 u) (.v (.bool true)) R), N, hR.add _, hN, callW_own (c := c16) rfl rfl 0 ?_⟩
      rw [v_app, v_len]
      simp only [c16, start, List.replicate, c16_0, c16_1, c16_2, c16_3, c16_4, c16_5, c16_6, c16_7, c16_8, c16_9, c16_10, c16_11, c16_12, c16_13, c16_14, c16_15, c16_16, c16_17, c16_18, c16_19, c16_20, cl, v_bx, v_ld4, v_ld5, v_ld6, v_ld8, v_ld9, v_l0, v_l1, v_l2, v_l4, v_st6, v_st7, v_st8, v_st9, v_st10, v_clr, v_up1, v_up2, ap, x_region_ap, apR_t, e_clrmap, e_mapupd, Q122, Int.reduceBEq, Q0, Q1, Q2, Q3, Q4, Q5, Q6, Q7, Q8, Q9, Q10, Q11, Q12, Q13, Q14, Q15, Q16, Q17, Q18, Q19, Q20, Q21, Q22, Q23, Q24, Q25, Q26, Q27, Q28, Q29, Q30, Q31, Q32, Q33, Q35, Q36, Q37, Q38, Q39, Q40, Q41, Q42, Q43, Q44, Q45, Q46, Q47, Q48, Q49, Q50, Q51, Q52, Q53, Q54, Q55, Q56, Q57, Q58, Q59, Q60, Q61, Q62, Q63, Q64, Q65, Q66, Q67, Q68, Q69, Q70, Q71, Q72, Q73, Q99, Q100, Q101, Q102, Q103, Q74, Q75, Q77, Q78, Q79, Q80, Q81, Q82, Q83, Q84, clr, List.length_nil, List.length_cons, List.getElem?_cons_zero, List.getElem?_cons_succ, Nat.reduceAdd, Nat.zero_add, Nat.add_zero, Nat.reduceLeDiff, Nat.reduceSub, ↓reduceIte, List.drop_succ_cons, List.drop_zero, List.take_succ_cons, List.take_zero, Bool.false_eq_true, List.nil_append, List.cons_append, Bool.not_true, Bool.not_false, cond_true, cond_false, bne, Q85, Q86, Q87, Q88, Q89, Q90, Q91, Q92, Q93, Q94, Q95, Q96, Q97, Q98, Q110, Q111, Q116, Q117, Q118, Q119, Q120, Q121, Q122, Q123, Option.map_some, Option.map_none, hz]
      exact v_leave0 h0 h3 hT rfl _ (by first | exact .inr rfl | exact .inl rfl)
    ·have hz : (IntKind.i64.wrap (p - 1) == 0) = false := by simp [hz']
     cases hd with
     | false =>
      rw [show doesT ⟨S, Q, p, o, u, false, ov⟩ 3 2 i = ⟨S, Q, (IntKind.i64.wrap (p - 1)), o, u, false, ov⟩ from by simp [doesT, headOff, hz']]
      refine ⟨R, N, hR, hN, callW_own (c := c16) rfl rfl 0 ?_⟩
      rw [v_app, v_len]
      simp only [c16, start, List.replicate, c16_0, c16_1, c16_2, c16_3, c16_4, c16_5, c16_6, c16_7, c16_8, c16_9, c16_10, c16_11, c16_12, c16_13, c16_14, c16_15, c16_16, c16_17, c16_18, c16_19, c16_20, cl, v_bx, v_ld4, v_ld5, v_ld6, v_ld8, v_ld9, v_l0, v_l1, v_l2, v_l4, v_st6, v_st7, v_st8, v_st9, v_st10, v_clr, v_up1, v_up2, ap, x_region_ap, apR_t, e_clrmap, e_mapupd, Q122, Int.reduceBEq, Q0, Q1, Q2, Q3, Q4, Q5, Q6, Q7, Q8, Q9, Q10, Q11, Q12, Q13, Q14, Q15, Q16, Q17, Q18, Q19, Q20, Q21, Q22, Q23, Q24, Q25, Q26, Q27, Q28, Q29, Q30, Q31, Q32, Q33, Q35, Q36, Q37, Q38, Q39, Q40, Q41, Q42, Q43, Q44, Q45, Q46, Q47, Q48, Q49, Q50, Q51, Q52, Q53, Q54, Q55, Q56, Q57, Q58, Q59, Q60, Q61, Q62, Q63, Q64, Q65, Q66, Q67, Q68, Q69, Q70, Q71, Q72, Q73, Q99, Q100, Q101, Q102, Q103, Q74, Q75, Q77, Q78, Q79, Q80, Q81, Q82, Q83, Q84, clr, List.length_nil, List.length_cons, List.getElem?_cons_zero, List.getElem?_cons_succ, Nat.reduceAdd, Nat.zero_add, Nat.add_zero, Nat.reduceLeDiff, Nat.reduceSub, ↓reduceIte, List.drop_succ_cons, List.drop_zero, List.take_succ_cons, List.take_zero, Bool.false_eq_true, List.nil_append, List.cons_append, Bool.not_true, Bool.not_false, cond_true, cond_false, bne, Q85, Q86, Q87, Q88, Q89, Q90, Q91, Q92, Q93, Q94, Q95, Q96, Q97, Q98, Q110, Q111, Q116, Q117, Q118, Q119, Q120, Q121, Q122, Q123, Option.map_some, Option.map_none, hz]
      exact v_leave0 h0 h3 hT rfl _ (by first | exact .inr rfl | exact .inl rfl)
     | true =>
      rw [show doesT ⟨S, Q, p, o, u, true, ov⟩ 3 2 i = ⟨S, Q, (IntKind.i64.wrap (p - 1)), o, u, true, ov⟩ from by simp [doesT, headOff, hz']]
      refine ⟨R, N, hR, hN, callW_own (c := c16) rfl rfl 0 ?_⟩
      rw [v_app, v_len]
      simp only [c16, start, List.replicate, c16_0, c16_1, c16_2, c16_3, c16_4, c16_5, c16_6, c16_7, c16_8, c16_9, c16_10, c16_11, c16_12, c16_13, c16_14, c16_15, c16_16, c16_17, c16_18, c16_19, c16_20, cl, v_bx, v_ld4, v_ld5, v_ld6, v_ld8, v_ld9, v_l0, v_l1, v_l2, v_l4, v_st6, v_st7, v_st8, v_st9, v_st10, v_clr, v_up1, v_up2, ap, x_region_ap, apR_t, e_clrmap, e_mapupd, Q122, Int.reduceBEq, Q0, Q1, Q2, Q3, Q4, Q5, Q6, Q7, Q8, Q9, Q10, Q11, Q12, Q13, Q14, Q15, Q16, Q17, Q18, Q19, Q20, Q21, Q22, Q23, Q24, Q25, Q26, Q27, Q28, Q29, Q30, Q31, Q32, Q33, Q35, Q36, Q37, Q38, Q39, Q40, Q41, Q42, Q43, Q44, Q45, Q46, Q47, Q48, Q49, Q50, Q51, Q52, Q53, Q54, Q55, Q56, Q57, Q58, Q59, Q60, Q61, Q62, Q63, Q64, Q65, Q66, Q67, Q68, Q69, Q70, Q71, Q72, Q73, Q99, Q100, Q101, Q102, Q103, Q74, Q75, Q77, Q78, Q79, Q80, Q81, Q82, Q83, Q84, clr, List.length_nil, List.length_cons, List.getElem?_cons_zero, List.getElem?_cons_succ, Nat.reduceAdd, Nat.zero_add, Nat.add_zero, Nat.reduceLeDiff, Nat.reduceSub, ↓reduceIte, List.drop_succ_cons, List.drop_zero, List.take_succ_cons, List.take_zero, Bool.false_eq_true, List.nil_append, List.cons_append, Bool.not_true, Bool.not_false, cond_true, cond_false, bne, Q85, Q86, Q87, Q88, Q89, Q90, Q91, Q92, Q93, Q94, Q95, Q96, Q97, Q98, Q110, Q111, Q116, Q117, Q118, Q119, Q120, Q121, Q122, Q123, Option.map_some, Option.map_none, hz]
      exact v_leave0 h0 h3 hT rfl _ (by first | exact .inr rfl | exact .inl rfl)
   ·by_cases hz' : IntKind.i64.wrap (p - 1) = 0
    ·have hz : (IntKind.i64.wrap (p - 1) == 0) = true := by simp [hz']
     cases hd with
     | false =>
      rw [show doesT ⟨S, Q, p, o, u, false, ov⟩ 3 3 i = ⟨(u :: S), Q, (IntKind.i64.wrap (p - 1)), o, u, false, ov⟩ from by simp [doesT, headOff, hz']]
      refine ⟨(upd (.int .i64 u) (.v (.bool true)) R), N, hR.add _, hN, callW_own (c := c16) rfl rfl 0 ?_⟩
      rw [v_app, v_len]
      simp only [c16, start, List.replicate, c16_0, c16_1, c16_2, c16_3, c16_4, c16_5, c16_6, c16_7, c16_8, c16_9, c16_10, c16_11, c16_12, c16_13, c16_14, c16_15, c16_16, c16_17, c16_18, c16_19, c16_20, cl, v_bx, v_ld4, v_ld5, v_ld6, v_ld8, v_ld9, v_l0, v_l1, v_l2, v_l4, v_st6, v_st7, v_st8, v_st9, v_st10, v_clr, v_up1, v_up2, ap, x_region_ap, apR_t, e_clrmap, e_mapupd, Q122, Int.reduceBEq, Q0, Q1, Q2, Q3, Q4, Q5, Q6, Q7, Q8, Q9, Q10, Q11, Q12, Q13, Q14, Q15, Q16, Q17, Q18, Q19, Q20, Q21, Q22, Q23, Q24, Q25, Q26, Q27, Q28, Q29, Q30, Q31, Q32, Q33, Q35, Q36, Q37, Q38, Q39, Q40, Q41, Q42, Q43, Q44, Q45, Q46, Q47, Q48, Q49, Q50, Q51, Q52, Q53, Q54, Q55, Q56, Q57, Q58, Q59, Q60, Q61, Q62, Q63, Q64, Q65, Q66, Q67, Q68, Q69, Q70, Q71, Q72, Q73, Q99, Q100, Q101, Q102, Q103, Q74, Q75, Q77, Q78, Q79, Q80, Q81, Q82, Q83, Q84, clr, List.length_nil, List.length_cons, List.getElem?_cons_zero, List.getElem?_cons_succ, Nat.reduceAdd, Nat.zero_add, Nat.add_zero, Nat.reduceLeDiff, Nat.reduceSub, ↓reduceIte, List.drop_succ_cons, List.drop_zero, List.take_succ_cons, List.take_zero, Bool.false_eq_true, List.nil_append, List.cons_append, Bool.not_true, Bool.not_false, cond_true, cond_false, bne, Q85, Q86, Q87, Q88, Q89, Q90, Q91, Q92, Q93, Q94, Q95, Q96, Q97, Q98, Q110, Q111, Q116, Q117, Q118, Q119, Q120, Q121, Q122, Q123, Option.map_some, Option.map_none, hz]
      exact v_leave0 h0 h3 hT rfl _ (by first | exact .inr rfl | exact .inl rfl)
     | true =>
      rw [show doesT ⟨S, Q, p, o, u, true, ov⟩ 3 3 i = ⟨(u :: S), Q, (IntKind.i64.wrap (p - 1)), o, u, true, ov⟩ from by simp [doesT, headOff, hz']]
      refine ⟨(upd (.int .i64 u) (.v (.bool true)) R), N, hR.add _, hN, callW_own (c := c16) rfl rfl 0 ?_⟩
      rw [v_app, v_len]
      simp only [c16, start, List.replicate, c16_0, c16_1, c16_2, c16_3, c16_4, c16_5, c16_6, c16_7, c16_8, c16_9, c16_10, c16_11, c16_12, c16_13, c16_14, c16_15, c16_16, c16_17, c16_18, c16_19, c16_20, cl, v_bx, v_ld4, v_ld5, v_ld6, v_ld8, v_ld9, v_l0, v_l1, v_l2, v_l4, v_st6, v_st7, v_st8, v_st9, v_st10, v_clr, v_up1, v_up2, ap, x_region_ap, apR_t, e_clrmap, e_mapupd, Q122, Int.reduceBEq, Q0, Q1, Q2, Q3, Q4, Q5, Q6, Q7, Q8, Q9, Q10, Q11, Q12, Q13, Q14, Q15, Q16, Q17, Q18, Q19, Q20, Q21, Q22, Q23, Q24, Q25, Q26, Q27, Q28, Q29, Q30, Q31, Q32, Q33, Q35, Q36, Q37, Q38, Q39, Q40, Q41, Q42, Q43, Q44, Q45, Q46, Q47, Q48, Q49, Q50, Q51, Q52, Q53, Q54, Q55, Q56, Q57, Q58, Q59, Q60, Q61, Q62, Q63, Q64, Q65, Q66, Q67, Q68, Q69, Q70, Q71, Q72, Q73, Q99, Q100, Q101, Q102, Q103, Q74, Q75, Q77, Q78, Q79, Q80, Q81, Q82, Q83, Q84, clr, List.length_nil, List.length_cons, List.getElem?_cons_zero, List.getElem?_cons_succ, Nat.reduceAdd, Nat.zero_add, Nat.add_zero, Nat.reduceLeDiff, Nat.reduceSub, ↓reduceIte, List.drop_succ_cons, List.drop_zero, List.take_succ_cons, List.take_zero, Bool.false_eq_true, List.nil_append, List.cons_append, Bool.not_true, Bool.not_false, cond_true, cond_false, bne, Q85, Q86, Q87, Q88, Q89, Q90, Q91, Q92, Q93, Q94, Q95, Q96, Q97, Q98, Q110, Q111, Q116, Q117, Q118, Q119, Q120, Q121, Q122, Q123, Option.map_some, Option.map_none, hz]
      exact v_leave0 h0 h3 hT rfl _ (by first | exact .inr rfl | exact .inl rfl)
    ·have hz : (IntKind.i64.wrap (p - 1) == 0) = false := by simp [hz']
     cases hd with
     | false =>
      rw [show doesT ⟨S, Q, p, o, u, false, ov⟩ 3 3 i = ⟨S, Q, (IntKind.i64.wrap (p - 1)), o, u, false, ov⟩ from by simp [doesT, headOff, hz']]
      refine ⟨R, N, hR, hN, callW_own (c := c16) rfl rfl 0 ?_⟩
      rw [v_app, v_len]
      simp only [c16, start, List.replicate, c16_0, c16_1, c16_2, c16_3, c16_4, c16_5, c16_6, c16_7, c16_8, c16_9, c16_10, c16_11, c16_12, c16_13, c16_14, c16_15, c16_16, c16_17, c16_18, c16_19, c16_20, cl, v_bx, v_ld4, v_ld5, v_ld6, v_ld8, v_ld9, v_l0, v_l1, v_l2, v_l4, v_st6, v_st7, v_st8, v_st9, v_st10, v_clr, v_up1, v_up2, ap, x_region_ap, apR_t, e_clrmap, e_mapupd, Q122, Int.reduceBEq, Q0, Q1, Q2, Q3, Q4, Q5, Q6, Q7, Q8, Q9, Q10, Q11, Q12, Q13, Q14, Q15, Q16, Q17, Q18, Q19, Q20, Q21, Q22, Q23, Q24, Q25, Q26, Q27, Q28, Q29, Q30, Q31, Q32, Q33, Q35, Q36, Q37, Q38, Q39, Q40, Q41, Q42, Q43, Q44, Q45, Q46, Q47, Q48, Q49, Q50, Q51, Q52, Q53, Q54, Q55, Q56, Q57, Q58, Q59, Q60, Q61, Q62, Q63, Q64, Q65, Q66, Q67, Q68, Q69, Q70, Q71, Q72, Q73, Q99, Q100, Q101, Q102, Q103, Q74, Q75, Q77, Q78, Q79, Q80, Q81, Q82, Q83, Q84, clr, List.length_nil, List.length_cons, List.getElem?_cons_zero, List.getElem?_cons_succ, Nat.reduceAdd, Nat.zero_add, Nat.add_zero, Nat.reduceLeDiff, Nat.reduceSub, ↓reduceIte, List.drop_succ_cons, List.drop_zero, List.take_succ_cons, List.take_zero, Bool.false_eq_true, List.nil_append, List.cons_append, Bool.not_true, Bool.not_false, cond_true, cond_false, bne, Q85, Q86, Q87, Q88, Q89, Q90, Q91, Q92, Q93, Q94, Q95, Q96, Q97, Q98, Q110, Q111, Q116, Q117, Q118, Q119, Q120, Q121, Q122, Q123, Option.map_some, Option.map_none, hz]
      exact v_leave0 h0 h3 hT rfl _ (by first | exact .inr rfl | exact .inl rfl)
     | true =>
      rw [show doesT ⟨S, Q, p, o, u, true, ov⟩ 3 3 i = ⟨S, Q, (IntKind.i64.wrap (p - 1)), o, u, true, ov⟩ from by simp [doesT, headOff, hz']]
      refine ⟨R, N, hR, hN, callW_own (c := c16) rfl rfl 0 ?_⟩
      rw [v_app, v_len]
      simp only [c16, start, List.replicate, c16_0, c16_1, c16_2, c16_3, c16_4, c16_5, c16_6, c16_7, c16_8, c16_9, c16_10, c16_11, c16_12, c16_13, c16_14, c16_15, c16_16, c16_17, c16_18, c16_19, c16_20, cl, v_bx, v_ld4, v_ld5, v_ld6, v_ld8, v_ld9, v_l0, v_l1, v_l2, v_l4, v_st6, v_st7, v_st8, v_st9, v_st10, v_clr, v_up1, v_up2, ap, x_region_ap, apR_t, e_clrmap, e_mapupd, Q122, Int.reduceBEq, Q0, Q1, Q2, Q3, Q4, Q5, Q6, Q7, Q8, Q9, Q10, Q11, Q12, Q13, Q14, Q15, Q16, Q17, Q18, Q19, Q20, Q21, Q22, Q23, Q24, Q25, Q26, Q27, Q28, Q29, Q30, Q31, Q32, Q33, Q35, Q36, Q37, Q38, Q39, Q40, Q41, Q42, Q43, Q44, Q45, Q46, Q47, Q48, Q49, Q50, Q51, Q52, Q53, Q54, Q55, Q56, Q57, Q58, Q59, Q60, Q61, Q62, Q63, Q64, Q65, Q66, Q67, Q68, Q69, Q70, Q71, Q72, Q73, Q99, Q100, Q101, Q102, Q103, Q74, Q75, Q77, Q78, Q79, Q80, Q81, Q82, Q83, Q84, clr, List.length_nil, List.length_cons, List.getElem?_cons_zero, List.getElem?_cons_succ, Nat.reduceAdd, Nat.zero_add, Nat.add_zero, Nat.reduceLeDiff, Nat.reduceSub, ↓reduceIte, List.drop_succ_cons, List.drop_zero, List.take_succ_cons, List.take_zero, Bool.false_eq_true, List.nil_append, List.cons_append, Bool.not_true, Bool.not_false, cond_true, cond_false, bne, Q85, Q86, Q87, Q88, Q89, Q90, Q91, Q92, Q93, Q94, Q95, Q96, Q97, Q98, Q110, Q111, Q116, Q117, Q118, Q119, Q120, Q121, Q122, Q123, Option.map_some, Option.map_none, hz]
      exact v_leave0 h0 h3 hT rfl _ (by first | exact .inr rfl | exact .inl rfl)
   ·by_cases hz' : IntKind.i64.wrap (p - 1) = 0
    ·have hz : (IntKind.i64.wrap (p - 1) == 0) = true := by simp [hz']
     cases hd with
     | false =>
      rw [show doesT ⟨S, Q, p, o, u, false, ov⟩ 3 4 i = ⟨(u :: S), Q, (IntKind.i64.wrap (p - 1)), o, u, false, ov⟩ from by simp [doesT, headOff, hz']]
      refine ⟨(upd (.int .i64 u) (.v (.bool true)) R), N, hR.add _, hN, callW_own (c := c16) rfl rfl 0 ?_⟩
      rw [v_app, v_len]
      simp only [c16, start, List.replicate, c16_0, c16_1, c16_2, c16_3, c16_4, c16_5, c16_6, c16_7, c16_8, c16_9, c16_10, c16_11, c16_12, c16_13, c16_14, c16_15, c16_16, c16_17, c16_18, c16_19, c16_20, cl, v_bx, v_ld4, v_ld5, v_ld6, v_ld8, v_ld9, v_l0, v_l1, v_l2, v_l4, v_st6, v_st7, v_st8, v_st9, v_st10, v_clr, v_up1, v_up2, ap, x_region_ap, apR_t, e_clrmap, e_mapupd, Q122, Int.reduceBEq, Q0, Q1, Q2, Q3, Q4, Q5, Q6, Q7, Q8, Q9, Q10, Q11, Q12, Q13, Q14, Q15, Q16, Q17, Q18, Q19, Q20, Q21, Q22, Q23, Q24, Q25, Q26, Q27, Q28, Q29, Q30, Q31, Q32, Q33, Q35, Q36, Q37, Q38, Q39, Q40, Q41, Q42, Q43, Q44, Q45, Q46, Q47, Q48, Q49, Q50, Q51, Q52, Q53, Q54, Q55, Q56, Q57, Q58, Q59, Q60, Q61, Q62, Q63, Q64, Q65, Q66, Q67, Q68, Q69, Q70, Q71, Q72, Q73, Q99, Q100, Q101, Q102, Q103, Q74, Q75, Q77, Q78, Q79, Q80, Q81, Q82, Q83, Q84, clr, List.length_nil, List.length_cons, List.getElem?_cons_zero, List.getElem?_cons_succ, Nat.reduceAdd, Nat.zero_add, Nat.add_zero, Nat.reduceLeDiff, Nat.reduceSub, ↓reduceIte, List.drop_succ_cons, List.drop_zero, List.take_succ_cons, List.take_zero, Bool.false_eq_true, List.nil_append, List.cons_append, Bool.not_true, Bool.not_false, cond_true, cond_false, bne, Q85, Q86, Q87, Q88, Q89, Q90, Q91, Q92, Q93, Q94, Q95, Q96, Q97, Q98, Q110, Q111, Q116, Q117, Q118, Q119, Q120, Q121, Q122, Q123, Option.map_some, Option.map_none, hz]
      exact v_leave0 h0 h3 hT rfl _ (by first | exact .inr rfl | exact .inl rfl)
     | true =>
      rw [show doesT ⟨S, Q, p, o, u, true, ov⟩ 3 4 i = ⟨(u :: S), Q, (IntKind.i64.wrap (p - 1)), o, u, true, ov⟩ from by simp [doesT, headOff, hz']]
      refine ⟨(upd (.int .i64 u) (.v (.bool true)) R), N, hR.add _, hN, callW_own (c := c16) rfl rfl 0 ?_⟩
      rw [v_app, v_len]
      simp only [c16, start, List.replicate, c16_0, c16_1, c16_2, c16_3, c16_4, c16_5, c16_6, c16_7, c16_8, c16_9, c16_10, c16_11, c16_12, c16_13, c16_14, c16_15, c16_16, c16_17, c16_18, c16_19, c16_20, cl, v_bx, v_ld4, v_ld5, v_ld6, v_ld8, v_ld9, v_l0, v_l1, v_l2, v_l4, v_st6, v_st7, v_st8, v_st9, v_st10, v_clr, v_up1, v_up2, ap, x_region_ap, apR_t, e_clrmap, e_mapupd, Q122, Int.reduceBEq, Q0, Q1, Q2, Q3, Q4, Q5, Q6, Q7, Q8, Q9, Q10, Q11, Q12, Q13, Q14, Q15, Q16, Q17, Q18, Q19, Q20, Q21, Q22, Q23, Q24, Q25, Q26, Q27, Q28, Q29, Q30, Q31, Q32, Q33, Q35, Q36, Q37, Q38, Q39, Q40, Q41, Q42, Q43, Q44, Q45, Q46, Q47, Q48, Q49, Q50, Q51, Q52, Q53, Q54, Q55, Q56, Q57, Q58, Q59, Q60, Q61, Q62, Q63, Q64, Q65, Q66, Q67, Q68, Q69, Q70, Q71, Q72, Q73, Q99, Q100, Q101, Q102, Q103, Q74, Q75, Q77, Q78, Q79, Q80, Q81, Q82, Q83, Q84, clr, List.length_nil, List.length_cons, List.getElem?_cons_zero, List.getElem?_cons_succ, Nat.reduceAdd, Nat.zero_add, Nat.add_zero, Nat.reduceLeDiff, Nat.reduceSub, ↓reduceIte, List.drop_succ_cons, List.drop_zero, List.take_succ_cons, List.take_zero, Bool.false_eq_true, List.nil_append, List.cons_append, Bool.not_true, Bool.not_false, cond_true, cond_false, bne, Q85, Q86, Q87, Q88, Q89, Q90, Q91, Q92, Q93, Q94, Q95, Q96, Q97, Q98, Q110, Q111, Q116, Q117, Q118, Q119, Q120, Q121, Q122, Q123, Option.map_some, Option.map_none, hz]
      exact v_leave0 h0 h3 hT rfl _ (by first | exact .inr rfl | exact .inl rfl)
    ·have hz : (IntKind.i64.wrap (p - 1) == 0) = false := by simp [hz']
     cases hd with
     | false =>
      rw [show doesT ⟨S, Q, p, o, u, false, ov⟩ 3 4 i = ⟨S, Q, (IntKind.i64.wrap (p - 1)), o, u, false, ov⟩ from by simp [doesT, headOff, hz']]
      refine ⟨R, N, hR, hN, callW_own (c := c16) rfl rfl 0 ?_⟩
      rw [v_app, v_len]
      simp only [c16, start, List.replicate, c16_0, c16_1, c16_2, c16_3, c16_4, c16_5, c16_6, c16_7, c16_8, c16_9, c16_10, c16_11, c16_12, c16_13, c16_14, c16_15, c16_16, c16_17, c16_18, c16_19, c16_20, cl, v_bx, v_ld4, v_ld5, v_ld6, v_ld8, v_ld9, v_l0, v_l1, v_l2, v_l4, v_st6, v_st7, v_st8, v_st9, v_st10, v_clr, v_up1, v_up2, ap, x_region_ap, apR_t, e_clrmap, e_mapupd, Q122, Int.reduceBEq, Q0, Q1, Q2, Q3, Q4, Q5, Q6, Q7, Q8, Q9, Q10, Q11, Q12, Q13, Q14, Q15, Q16, Q17, Q18, Q19, Q20, Q21, Q22, Q23, Q24, Q25, Q26, Q27, Q28, Q29, Q30, Q31, Q32, Q33, Q35, Q36, Q37, Q38, Q39, Q40, Q41, Q42, Q43, Q44, Q45, Q46, Q47, Q48, Q49, Q50, Q51, Q52, Q53, Q54, Q55, Q56, Q57, Q58, Q59, Q60, Q61, Q62, Q63, Q64, Q65, Q66, Q67, Q68, Q69, Q70, Q71, Q72, Q73, Q99, Q100, Q101, Q102, Q103, Q74, Q75, Q77, Q78, Q79, Q80, Q81, Q82, Q83, Q84, clr, List.length_nil, List.length_cons, List.getElem?_cons_zero, List.getElem?_cons_succ, Nat.reduceAdd, Nat.zero_add, Nat.add_zero, Nat.reduceLeDiff, Nat.reduceSub, ↓reduceIte, List.drop_succ_cons, List.drop_zero, List.take_succ_cons, List.take_zero, Bool.false_eq_true, List.nil_append, List.cons_append, Bool.not_true, Bool.not_false, cond_true, cond_false, bne, Q85, Q86, Q87, Q88, Q89, Q90, Q91, Q92, Q93, Q94, Q95, Q96, Q97, Q98, Q110, Q111, Q116, Q117, Q118, Q119, Q120, Q121, Q122, Q123, Option.map_some, Option.map_none, hz]
      exact v_leave0 h0 h3 hT rfl _ (by first | exact .inr rfl | exact .inl rfl)
     | true =>
      rw [show doesT ⟨S, Q, p, o, u, true, ov⟩ 3 4 i = ⟨S, Q, (IntKind.i64.wrap (p - 1)), o, u, true, ov⟩ from by simp [doesT, headOff, hz']]
      refine ⟨R, N, hR, hN, callW_own (c := c16) rfl rfl 0 ?_⟩
      rw [v_app, v_len]
      simp only [c16, start, List.replicate, c16_0, c16_1, c16_2, c16_3, c16_4, c16_5, c16_6, c16_7, c16_8, c16_9, c16_10, c16_11, c16_12, c16_13, c16_14, c16_15, c16_16, c16_17, c16_18, c16_19, c16_20, cl, v_bx, v_ld4, v_ld5, v_ld6, v_ld8, v_ld9, v_l0, v_l1, v_l2, v_l4, v_st6, v_st7, v_st8, v_st9, v_st10, v_clr, v_up1, v_up2, ap, x_region_ap, apR_t, e_clrmap, e_mapupd, Q122, Int.reduceBEq, Q0, Q1, Q2, Q3, Q4, Q5, Q6, Q7, Q8, Q9, Q10, Q11, Q12, Q13, Q14, Q15, Q16, Q17, Q18, Q19, Q20, Q21, Q22, Q23, Q24, Q25, Q26, Q27, Q28, Q29, Q30, Q31, Q32, Q33, Q35, Q36, Q37, Q38, Q39, Q40, Q41, Q42, Q43, Q44, Q45, Q46, Q47, Q48, Q49, Q50, Q51, Q52, Q53, Q54, Q55, Q56, Q57, Q58, Q59, Q60, Q61, Q62, Q63, Q64, Q65, Q66, Q67, Q68, Q69, Q70, Q71, Q72, Q73, Q99, Q100, Q101, Q102, Q103, Q74, Q75, Q77, Q78, Q79, Q80, Q81, Q82, Q83, Q84, clr, List.length_nil, List.length_cons, List.getElem?_cons_zero, List.getElem?_cons_succ, Nat.reduceAdd, Nat.zero_add, Nat.add_zero, Nat.reduceLeDiff, Nat.reduceSub, ↓reduceIte, List.drop_succ_cons, List.drop_zero, List.take_succ_cons, List.take_zero, Bool.false_eq_true, List.nil_append, List.cons_append, Bool.not_true, Bool.not_false, cond_true, cond_false, bne, Q85, Q86, Q87, Q88, Q89, Q90, Q91, Q92, Q93, Q94, Q95, Q96, Q97, Q98, Q110, Q111, Q116, Q117, Q118, Q119, Q120, Q121, Q122, Q123, Option.map_some, Option.map_none, hz]
      exact v_leave0 h0 h3 hT rfl _ (by first | exact .inr rfl | exact .inl rfl)
end
end Go.AE.YtghgbbiklkpbnaaDoor.Chk
end

section
namespace Go.AE.YtghgbbiklkpbnaaDoor.Chk
open Go Go.AE Go.Proofs.YtghgbbiklkpbnaaDoor

def charT (s : ByteArray) : Bool := decide ((s.size : Int) ≤ 255) && Lib.validD s.data.toList
theorem char_ok (s : ByteArray) : callW F 12 [.v (.string s)] [] = some (.v (.bool (charT s)), []) := by
 refine callW_pure (c := c12) rfl rfl 0 ?_
 have ln : ∀ h : List AO, evLen h .string (.v (.string s)) = some s.size := fun _ => rfl
 cases h1 : decide ((s.size : Int) ≤ 255) with
 | false => simp only [charT, c12, start, List.replicate, c12_0, c12_1, ln, h1, Q122, Bool.false_and, Q0, Q1, Q2, Q3, Q4, Q5, Q6, Q7, Q8, Q9, Q10, Q11, Q12, Q13, Q14, Q15, Q16, Q17, Q18, Q19, Q20, Q21, Q22, Q23, Q24, Q25, Q26, Q27, Q28, Q29, Q30, Q31, Q32, Q33, Q35, Q36, Q37, Q38, Q39, Q40, Q41, Q42, Q43, Q44, Q45, Q46, Q47, Q48, Q49, Q50, Q51, Q52, Q53, Q54, Q55, Q56, Q57, Q58, Q59, Q60, Q61, Q62, Q63, Q64, Q65, Q66, Q67, Q68, Q69, Q70, Q71, Q72, Q73, Q99, Q100, Q101, Q102, Q103, Q74, Q75, Q77, Q78, Q79, Q80, Q81, Q82, Q83, Q84, clr, List.length_nil, List.length_cons, List.getElem?_cons_zero, List.getElem?_cons_succ, Nat.reduceAdd, Nat.zero_add, Nat.add_zero, Nat.reduceLeDiff, Nat.reduceSub, ↓reduceIte, List.drop_succ_cons, List.drop_zero, List.take_succ_cons, List.take_zero, Bool.false_eq_true, List.nil_append, List.cons_append, Bool.not_true, Bool.not_false, cond_true, cond_false, bne, Q85, Q86, Q87, Q88, Q89, Q90, Q91, Q92, Q93, Q94, Q95, Q96, Q97, Q98, Q110, Q111, Q116, Q117, Q118, Q119, Q120, Q121, Q122, Q123, Option.map_some, Option.map_none]
 | true =>
  have hs : s.size ≤ 9223372036854775807 := by simp at h1; omega
  have hv : callW F 32 [.v (.string s)] [] = some (.v (.bool (Lib.validD s.data.toList)), []) := by
   refine callW_iff.2 ⟨1, ?_⟩
   have : F 32 = some (.oracle validG) := rfl
   simp only [callN, this, validG, if_pos hs]
  have sn : ∀ h : List AO, (AV.v (.string s)).snap1 h = some (.v (.string s)) := fun _ => rfl
  simp only [charT, c12, start, List.replicate, c12_0, c12_1, ln, h1, hv, sn, Q122, Bool.true_and, Q0, Q1, Q2, Q3, Q4, Q5, Q6, Q7, Q8, Q9, Q10, Q11, Q12, Q13, Q14, Q15, Q16, Q17, Q18, Q19, Q20, Q21, Q22, Q23, Q24, Q25, Q26, Q27, Q28, Q29, Q30, Q31, Q32, Q33, Q35, Q36, Q37, Q38, Q39, Q40, Q41, Q42, Q43, Q44, Q45, Q46, Q47, Q48, Q49, Q50, Q51, Q52, Q53, Q54, Q55, Q56, Q57, Q58, Q59, Q60, Q61, Q62, Q63, Q64, Q65, Q66, Q67, Q68, Q69, Q70, Q71, Q72, Q73, Q99, Q100, Q101, Q102, Q103, Q74, Q75, Q77, Q78, Q79, Q80, Q81, Q82, Q83, Q84, clr, List.length_nil, List.length_cons, List.getElem?_cons_zero, List.getElem?_cons_succ, Nat.reduceAdd, Nat.zero_add, Nat.add_zero, Nat.reduceLeDiff, Nat.reduceSub, ↓reduceIte, List.drop_succ_cons, List.drop_zero, List.take_succ_cons, List.take_zero, Bool.false_eq_true, List.nil_append, List.cons_append, Bool.not_true, Bool.not_false, cond_true, cond_false, bne, Q85, Q86, Q87, Q88, Q89, Q90, Q91, Q92, Q93, Q94, Q95, Q96, Q97, Q98, Q110, Q111, Q116, Q117, Q118, Q119, Q120, Q121, Q122, Q123, Option.map_some, Option.map_none]
theorem rowT_bd (op : Int) : (0 ≤ (rowT op).1 ∧ (rowT op).1 ≤ 4) ∧ (0 ≤ (rowT op).2.1 ∧ (rowT op).2.1 ≤ 4) := by
 unfold rowT
 split
 ·exact ⟨⟨by decide, by decide⟩, by decide, by decide⟩
 ·split
  ·refine ⟨⟨?_, ?_⟩, ?_, ?_⟩ <;> dsimp only <;> omega
  ·refine ⟨⟨?_, ?_⟩, ?_, ?_⟩ <;> dsimp only <;> omega
def stepT (vs : Int) (s : VS) (i : In) : Option VS :=
 if (rowT i.op).2.2 && (!s.over && (charT i.nm && (standsT s.regs s.parts s.of s.head (rowT i.op).1 (rowT i.op).2.1 i && wholeT s.regs s.known vs s.head (rowT i.op).1 (rowT i.op).2.1 i))) then some (doesT s (rowT i.op).1 (rowT i.op).2.1 i) else none
def runT (vs : Int) : Nat → VS → List In → Int × Int
 | n, s, [] => if s.over then (0, 0) else (n, 150)
 | n, s, i :: l => match stepT vs s i with
  | none => (n, 150)
  | some s' => runT vs (n + 1) s' l
def upTo (n : Nat) : List Int := ((List.range n).map fun (i : Nat) => (i : Int)).reverse
theorem upTo_succ (n : Nat) : upTo (n + 1) = (n : Int) :: upTo n := by simp [upTo, List.range_succ]
def beginT (ar : Int) : VS := ⟨upTo ar.toNat, [], 0, 0, 0, true, false⟩
def okT (nm : ByteArray) (ar vs : Int) : Bool := !(decide (ar < 0) || (decide (ar > 16) || (decide (vs < 0) || !(charT nm))))
def checkT (nm : ByteArray) (ar vs : Int) (l : List In) : Int × Int := if okT nm ar vs then runT vs 0 (beginT ar) l else (0, 150)

def K9a : List Bool := [false, true, false, false, true, false, false, false, false, false, false, false, true, true, false, false, false, false, false, false, false]
def V9a (ar j : Int) (x5 x14 : AV) : List AV := [.junk, .ptr 0 0, .junk, .junk, .ptr 3 0, x5, .junk, .junk, .junk, .junk, .junk, .junk, .v (.int .i64 ar), .v (.int .i64 j), x14, .junk, .junk, .junk, .junk, .junk, .junk]
def K9b : List Bool := [false, true, false, false, true, false, false, false, false, false, false, false, false, false, false, true, true, true, false, false, false]
def V9b (c : AV) (len n : Int) : List AV := [.junk, .ptr 0 0, .junk, .junk, .ptr 3 0, .junk, .junk, .junk, .junk, .junk, .junk, .junk, .junk, .junk, .junk, c, .v (.int .i64 len), .v (.int .i64 n), .junk, .junk, .junk]
section
variable {c0 c3 : AV} {c1 c2 : Int}
theorem regs_loop {K n : Nat} (hn : n ≤ 16) (hK : n < K) {p o u : Int} {hd ov : Bool} (v : List AV) (hv : clr K9a v = V9a n 0 .junk .junk) :
  ∃ x5 R, Seen .i64 R (upTo n) ∧ loopN (exec (callW F) K c7_9) K9a K v (vH c0 c1 c2 c3 m0 m0 p o u hd ov []) = some (.exit 0, V9a n n x5 (.v (.bool false)), vH c0 c1 c2 c3 R m0 p o u hd ov []) := by
 obtain ⟨e, v', h', g1, g2, g3⟩ := loop_rule0 (call := callW F) (K := K) (b := c7_9) (keep := K9a) (fun j v h' => v = V9a n j .junk .junk ∧ ∃ R, Seen .i64 R (upTo j) ∧ h' = vH c0 c1 c2 c3 R m0 p o u hd ov [])
  (fun e v h' => e = .exit 0 ∧ (∃ x5, v = V9a n n x5 (.v (.bool false))) ∧ ∃ R, Seen .i64 R (upTo n) ∧ h' = vH c0 c1 c2 c3 R m0 p o u hd ov []) n (m := K) (v := v) (h := vH c0 c1 c2 c3 m0 m0 p o u hd ov []) hK ⟨hv, m0, Seen.nil _, rfl⟩ (by
   rintro j v h' hj ⟨rfl, R, hR, rfl⟩
   by_cases hjn : j < n
   ·have hlt := lt_t hjn
    have hw := wrap_succ hjn (by have : maxLen = 9223372036854775807 := rfl; omega)
    refine ⟨.normal, V9a n ((j + 1 : Nat) : Int) (.v (.int .i64 j)) (.v (.bool true)), _, ?_, hjn, rfl, _, (by rw [upTo_succ]; exact hR.add _), rfl⟩
    simp only [V9a, c7_9, c7_5, c7_6, c7_7, c7_8, hlt, hw, v_ld4, v_up1, e_mapupd, Q0, Q1, Q2, Q3, Q4, Q5, Q6, Q7, Q8, Q9, Q10, Q11, Q12, Q13, Q14, Q15, Q16, Q17, Q18, Q19, Q20, Q21, Q22, Q23, Q24, Q25, Q26, Q27, Q28, Q29, Q30, Q31, Q32, Q33, Q35, Q36, Q37, Q38, Q39, Q40, Q41, Q42, Q43, Q44, Q45, Q46, Q47, Q48, Q49, Q50, Q51, Q52, Q53, Q54, Q55, Q56, Q57, Q58, Q59, Q60, Q61, Q62, Q63, Q64, Q65, Q66, Q67, Q68, Q69, Q70, Q71, Q72, Q73, Q99, Q100, Q101, Q102, Q103, Q74, Q75, Q77, Q78, Q79, Q80, Q81, Q82, Q83, Q84, clr, List.length_nil, List.length_cons, List.getElem?_cons_zero, List.getElem?_cons_succ, Nat.reduceAdd, Nat.zero_add, Nat.add_zero, Nat.reduceLeDiff, Nat.reduceSub, ↓reduceIte, List.drop_succ_cons, List.drop_zero, List.take_succ_cons, List.take_zero, Bool.false_eq_true, List.nil_append, List.cons_append, Bool.not_true, Bool.not_false, cond_true, cond_false, bne, Q85, Q86, Q87, Q88, Q89, Q90, Q91, Q92, Q93, Q94, Q95, Q96, Q97, Q98, Q110, Q111, Q116, Q117, Q118, Q119, Q120, Q121, Q122, Q123, Option.map_some, Option.map_none]
   ·have hje : j = n := by omega
    subst hje
    have hlt := lt_f (n := j)
    refine ⟨.exit 0, V9a j j .junk (.v (.bool false)), _, ?_, rfl, ⟨_, rfl⟩, R, hR, rfl⟩
    simp only [V9a, c7_9, c7_5, hlt, Q0, Q1, Q2, Q3, Q4, Q5, Q6, Q7, Q8, Q9, Q10, Q11, Q12, Q13, Q14, Q15, Q16, Q17, Q18, Q19, Q20, Q21, Q22, Q23, Q24, Q25, Q26, Q27, Q28, Q29, Q30, Q31, Q32, Q33, Q35, Q36, Q37, Q38, Q39, Q40, Q41, Q42, Q43, Q44, Q45, Q46, Q47, Q48, Q49, Q50, Q51, Q52, Q53, Q54, Q55, Q56, Q57, Q58, Q59, Q60, Q61, Q62, Q63, Q64, Q65, Q66, Q67, Q68, Q69, Q70, Q71, Q72, Q73, Q99, Q100, Q101, Q102, Q103, Q74, Q75, Q77, Q78, Q79, Q80, Q81, Q82, Q83, Q84, clr, List.length_nil, List.length_cons, List.getElem?_cons_zero, List.getElem?_cons_succ, Nat.reduceAdd, Nat.zero_add, Nat.add_zero, Nat.reduceLeDiff, Nat.reduceSub, ↓reduceIte, List.drop_succ_cons, List.drop_zero, List.take_succ_cons, List.take_zero, Bool.false_eq_true, List.nil_append, List.cons_append, Bool.not_true, Bool.not_false, cond_true, cond_false, bne, Q85, Q86, Q87, Q88, Q89, Q90, Q91, Q92, Q93, Q94, Q95, Q96, Q97, Q98, Q110, Q111, Q116, Q117, Q118, Q119, Q120, Q121, Q122, Q123, Option.map_some, Option.map_none])
 obtain ⟨rfl, ⟨x5, rfl⟩, R, hR, rfl⟩ := g3
 exact ⟨x5, R, hR, g1⟩
theorem all_box {T : List AO} {i : In} (hT : T.all (AO.below 0) = true) : (T ++ [AO.box 41 (inC i)]).all (AO.below 0) = true := by
 rw [List.all_append, hT]; rfl
theorem check_loop (h0 : c0.below1 0 = true) (h3 : c3.below1 0 = true) {K : Nat} {c : AV} {l : List In} {es : List AV} (hs : Sl 5 c es) (hes : AllR IsIn es l) (hm : l.length ≤ maxLen) (hK : l.length < K) {R N : MR} {s : VS} (hR : Seen .i64 R s.regs) (hN : Seen .i64 N s.known) (v : List AV) (hv : clr K9b v = V9b c l.length 0) :
    ∃ e v' h', loopN (exec (callW F) K c7_18) K9b K v (vS c0 c1 c2 c3 R N s []) = some (e, v', h') ∧
      ((e = .ret ∧ getO v' [] (.var 2) = .v (.int .i64 (runT c2 0 s l).1) ∧ getO v' [] (.var 3) = .v (.int .i64 (runT c2 0 s l).2)) ∨
       (e = .exit 2 ∧ (∃ x18, v' = [.junk, .ptr 0 0, .junk, .junk, .ptr 3 0, .junk, .junk, .junk, .junk, .junk, .junk, .junk, .junk, .junk, .junk, c, .v (.int .i64 l.length), .v (.int .i64 l.length), x18, .junk, .junk]) ∧ ∃ R N s' T, h' = vS c0 c1 c2 c3 R N s' T ∧ runT c2 0 s l = if s'.over then (0, 0) else ((l.length : Int), 150))) := by
  obtain ⟨e, v', h', g1, g2, g3⟩ := loop_rule0 (call := callW F) (K := K) (b := c7_18) (keep := K9b) (fun n v h' => v = V9b c l.length n ∧ ∃ R N s' T, Seen .i64 R s'.regs ∧ Seen .i64 N s'.known ∧ T.all (AO.below 0) = true ∧ h' = vS c0 c1 c2 c3 R N s' T ∧ runT c2 0 s l = runT c2 n s' (l.drop n))
    (fun e v' h' => (e = .ret ∧ getO v' [] (.var 2) = .v (.int .i64 (runT c2 0 s l).1) ∧ getO v' [] (.var 3) = .v (.int .i64 (runT c2 0 s l).2)) ∨
       (e = .exit 2 ∧ (∃ x18, v' = [.junk, .ptr 0 0, .junk, .junk, .ptr 3 0, .junk, .junk, .junk, .junk, .junk, .junk, .junk, .junk, .junk, .junk, c, .v (.int .i64 l.length), .v (.int .i64 l.length), x18, .junk, .junk]) ∧ ∃ R N s' T, h' = vS c0 c1 c2 c3 R N s' T ∧ runT c2 0 s l = if s'.over then (0, 0) else ((l.length : Int), 150))) l.length (m := K) (v := v) (h := vS c0 c1 c2 c3 R N s []) hK ⟨hv, R, N, s, [], hR, hN, rfl, rfl, by simp⟩ (by
      rintro n v h' hn ⟨rfl, R, N, s', T, hR, hN, hT, rfl, hrun⟩
      by_cases hnl : n < l.length
      · have hlt := lt_t hnl
        have hw := wrap_succ hnl hm
        have hd : l.drop n = l[n] :: l.drop (n + 1) := List.drop_eq_getElem_cons hnl
        obtain ⟨x, hx⟩ : ∃ x, l[n]? = some x := ⟨_, List.getElem?_eq_getElem hnl⟩
        have hxe : l[n] = x := by rw [List.getElem?_eq_getElem hnl] at hx; exact Option.some.inj hx
        rw [hd, hxe] at hrun
        obtain ⟨e, he, hin⟩ := hes.get' hx
        have hei := hin.eq
        subst hei
        have q1 := fun h : List AO => hs.ia he h
        have q3 : ∀ h : List AO, Q76 h true 5 (.ip (inV x).cells) = some (inV x) := fun _ => rfl
        have z : (ofVal (.agg #[(.int .i64 0), (.int .i64 0), (.int .i64 0), (.string ⟨#[]⟩), (.int .i64 0)])).cl = some [.v (.int .i64 0), .v (.int .i64 0), .v (.int .i64 0), .v (.string ⟨#[]⟩), .v (.int .i64 0)] := by kernel_rfl
        have st := v_sti (c0 := c0) (c1 := c1) (c2 := c2) (c3 := c3) (R := R) (N := N) (p := s'.parts) (o := s'.of) (u := s'.under) (hd := s'.head) (ov := s'.over) (T := T) (i := x) (z := [.v (.int .i64 0), .v (.int .i64 0), .v (.int .i64 0), .v (.string ⟨#[]⟩), .v (.int .i64 0)]) rfl
        have hrow := row_ok x.op
        obtain ⟨hr, hk⟩ := rowT_bd x.op
        have hch := char_ok x.nm
        have sx : ∀ h : List AO, (AV.v (.string x.nm)).snap1 h = some (.v (.string x.nm)) := fun _ => rfl
        have so : ∀ h : List AO, (AV.v (.int .i64 x.op)).snap1 h = some (.v (.int .i64 x.op)) := fun _ => rfl
        have hT' := all_box (i := x) hT
        have hst := stands_ok (c0 := c0) (c1 := c1) (c2 := c2) (c3 := c3) (R := R) (N := N) (p := s'.parts) (o := s'.of) (u := s'.under) (hd := s'.head) (ov := s'.over) (k := (rowT x.op).2.1) h0 h3 hT' hR hr x
        have hwh := whole_ok (c0 := c0) (c1 := c1) (c2 := c2) (c3 := c3) (R := R) (N := N) (p := s'.parts) (o := s'.of) (u := s'.under) (hd := s'.head) (ov := s'.over) h0 h3 hT' hR hN hr hk x
        obtain ⟨R', N', hR', hN', hdo⟩ := does_ok (c0 := c0) (c1 := c1) (c2 := c2) (c3 := c3) h0 h3 hT' hR hN hr hk x
        have hstep : stepT c2 s' x = if (rowT x.op).2.2 && (!s'.over && (charT x.nm && (standsT s'.regs s'.parts s'.of s'.head (rowT x.op).1 (rowT x.op).2.1 x && wholeT s'.regs s'.known c2 s'.head (rowT x.op).1 (rowT x.op).2.1 x))) then some (doesT s' (rowT x.op).1 (rowT x.op).2.1 x) else none := rfl
        have hrun2 : runT c2 n s' (x :: l.drop (n + 1)) = match stepT c2 s' x with
          | none => ((n : Int), 150)
          | some s' => runT c2 (n + 1) s' (l.drop (n + 1)) := rfl
        have fa : ∀ (vars env : List AV), callW F 14 = callW F 14 := fun _ _ => rfl
        simp only [vS] at hdo ⊢
        generalize rowT x.op = rw at *
        obtain ⟨r, k, is⟩ := rw
        dsimp only at *
        have no : stepT c2 s' x = none → runT c2 0 s l = ((n : Int), 150) := fun h => by rw [hrun, hrun2, h]
        simp only [rowV] at hrow
        generalize hst0 : standsT s'.regs s'.parts s'.of s'.head r k x = bst at *
        generalize hwh0 : wholeT s'.regs s'.known c2 s'.head r k x = bwh at *
        generalize hch0 : charT x.nm = bch at *
        have ap := fun T => v_ld10 (c0 := c0) (c1 := c1) (c2 := c2) (c3 := c3) (R := R) (N := N) (p := s'.parts) (o := s'.of) (u := s'.under) (hd := s'.head) (ov := s'.over) (T := T)
        generalize hov : s'.over = ov at *
        by_cases good : (is && (!ov && (bch && (bst && bwh)))) = true
        · rw [if_pos good] at hstep
          simp only [Bool.and_eq_true, Bool.not_eq_true'] at good
          obtain ⟨rfl, rfl, rfl, rfl, rfl⟩ := good
          refine ⟨.normal, [.junk, .ptr 0 0, .junk, .junk, .ptr 3 0, .junk, .v (.int .i64 n), .ptr (T.length + 4) 0, .v (.int .i64 r), .v (.int .i64 k), .v (.bool true), .junk, .junk, .junk, .junk, c, .v (.int .i64 l.length), .v (.int .i64 ((n + 1 : Nat) : Int)), .v (.bool true), .v (.bool false), .junk], _, ?_, hnl, rfl, R', N', _, _, hR', hN', hT', rfl, by rw [hrun, hrun2, hstep]⟩
          simp only [V9b, c7_18, c7_11, c7_12, c7_13, c7_14, c7_16, c7_17, hlt, hw, q1, q3, z, v_bx, st, v_l0, v_l3, v_la, hrow, hch, sx, so, ap, hst, hwh, hdo, ex_2, e_callh, List.map_cons, List.map_nil, Q0, Q1, Q2, Q3, Q4, Q5, Q6, Q7, Q8, Q9, Q10, Q11, Q12, Q13, Q14, Q15, Q16, Q17, Q18, Q19, Q20, Q21, Q22, Q23, Q24, Q25, Q26, Q27, Q28, Q29, Q30, Q31, Q32, Q33, Q35, Q36, Q37, Q38, Q39, Q40, Q41, Q42, Q43, Q44, Q45, Q46, Q47, Q48, Q49, Q50, Q51, Q52, Q53, Q54, Q55, Q56, Q57, Q58, Q59, Q60, Q61, Q62, Q63, Q64, Q65, Q66, Q67, Q68, Q69, Q70, Q71, Q72, Q73, Q99, Q100, Q101, Q102, Q103, Q74, Q75, Q77, Q78, Q79, Q80, Q81, Q82, Q83, Q84, clr, List.length_nil, List.length_cons, List.getElem?_cons_zero, List.getElem?_cons_succ, Nat.reduceAdd, Nat.zero_add, Nat.add_zero, Nat.reduceLeDiff, Nat.reduceSub, ↓reduceIte, List.drop_succ_cons, List.drop_zero, List.take_succ_cons, List.take_zero, Bool.false_eq_true, List.nil_append, List.cons_append, Bool.not_true, Bool.not_false, cond_true, cond_false, bne, Q85, Q86, Q87, Q88, Q89, Q90, Q91, Q92, Q93, Q94, Q95, Q96, Q97, Q98, Q110, Q111, Q116, Q117, Q118, Q119, Q120, Q121, Q122, Q123, Option.map_some, Option.map_none]
        · rw [if_neg good] at hstep
          have hno := no hstep
          simp only [Bool.not_eq_true] at good
          cases is with
          | false =>
            refine ⟨.ret, [.junk, .ptr 0 0, .v (.int .i64 n), .v (.int .i64 150), .ptr 3 0, .junk, .v (.int .i64 n), .ptr (T.length + 4) 0, .v (.int .i64 r), .v (.int .i64 k), .v (.bool false), .junk, .junk, .junk, .junk, c, .v (.int .i64 l.length), .v (.int .i64 n), .v (.bool true), .v (.bool true), .junk], vH c0 c1 c2 c3 R N s'.parts s'.of s'.under s'.head ov (T ++ [.box 41 (inC x)]), ?_, .inl ⟨rfl, by rw [hno]; rfl, by rw [hno]; rfl⟩⟩
            simp only [V9b, c7_18, c7_11, c7_12, c7_13, c7_14, c7_15, hlt, hw, q1, q3, z, v_bx, st, v_l0, v_l3, v_la, hrow, hch, sx, so, ap, hst, hwh, ex_2, Q122, e_callh, List.map_cons, List.map_nil, Q0, Q1, Q2, Q3, Q4, Q5, Q6, Q7, Q8, Q9, Q10, Q11, Q12, Q13, Q14, Q15, Q16, Q17, Q18, Q19, Q20, Q21, Q22, Q23, Q24, Q25, Q26, Q27, Q28, Q29, Q30, Q31, Q32, Q33, Q35, Q36, Q37, Q38, Q39, Q40, Q41, Q42, Q43, Q44, Q45, Q46, Q47, Q48, Q49, Q50, Q51, Q52, Q53, Q54, Q55, Q56, Q57, Q58, Q59, Q60, Q61, Q62, Q63, Q64, Q65, Q66, Q67, Q68, Q69, Q70, Q71, Q72, Q73, Q99, Q100, Q101, Q102, Q103, Q74, Q75, Q77, Q78, Q79, Q80, Q81, Q82, Q83, Q84, clr, List.length_nil, List.length_cons, List.getElem?_cons_zero, List.getElem?_cons_succ, Nat.reduceAdd, Nat.zero_add, Nat.add_zero, Nat.reduceLeDiff, Nat.reduceSub, ↓reduceIte, List.drop_succ_cons, List.drop_zero, List.take_succ_cons, List.take_zero, Bool.false_eq_true, List.nil_append, List.cons_append, Bool.not_true, Bool.not_false, cond_true, cond_false, bne, Q85, Q86, Q87, Q88, Q89, Q90, Q91, Q92, Q93, Q94, Q95, Q96, Q97, Q98, Q110, Q111, Q116, Q117, Q118, Q119, Q120, Q121, Q122, Q123, Option.map_some, Option.map_none]
          | true =>
            cases ov with
            | true =>
              refine ⟨.ret, [.junk, .ptr 0 0, .v (.int .i64 n), .v (.int .i64 150), .ptr 3 0, .junk, .v (.int .i64 n), .ptr (T.length + 4) 0, .v (.int .i64 r), .v (.int .i64 k), .v (.bool true), .junk, .junk, .junk, .junk, c, .v (.int .i64 l.length), .v (.int .i64 n), .v (.bool true), .v (.bool true), .junk], vH c0 c1 c2 c3 R N s'.parts s'.of s'.under s'.head true (T ++ [.box 41 (inC x)]), ?_, .inl ⟨rfl, by rw [hno]; rfl, by rw [hno]; rfl⟩⟩
              simp only [V9b, c7_18, c7_11, c7_12, c7_13, c7_14, c7_15, hlt, hw, q1, q3, z, v_bx, st, v_l0, v_l3, v_la, hrow, hch, sx, so, ap, hst, hwh, ex_2, Q122, e_callh, List.map_cons, List.map_nil, Q0, Q1, Q2, Q3, Q4, Q5, Q6, Q7, Q8, Q9, Q10, Q11, Q12, Q13, Q14, Q15, Q16, Q17, Q18, Q19, Q20, Q21, Q22, Q23, Q24, Q25, Q26, Q27, Q28, Q29, Q30, Q31, Q32, Q33, Q35, Q36, Q37, Q38, Q39, Q40, Q41, Q42, Q43, Q44, Q45, Q46, Q47, Q48, Q49, Q50, Q51, Q52, Q53, Q54, Q55, Q56, Q57, Q58, Q59, Q60, Q61, Q62, Q63, Q64, Q65, Q66, Q67, Q68, Q69, Q70, Q71, Q72, Q73, Q99, Q100, Q101, Q102, Q103, Q74, Q75, Q77, Q78, Q79, Q80, Q81, Q82, Q83, Q84, clr, List.length_nil, List.length_cons, List.getElem?_cons_zero, List.getElem?_cons_succ, Nat.reduceAdd, Nat.zero_add, Nat.add_zero, Nat.reduceLeDiff, Nat.reduceSub, ↓reduceIte, List.drop_succ_cons, List.drop_zero, List.take_succ_cons, List.take_zero, Bool.false_eq_true, List.nil_append, List.cons_append, Bool.not_true, Bool.not_false, cond_true, cond_false, bne, Q85, Q86, Q87, Q88, Q89, Q90, Q91, Q92, Q93, Q94, Q95, Q96, Q97, Q98, Q110, Q111, Q116, Q117, Q118, Q119, Q120, Q121, Q122, Q123, Option.map_some, Option.map_none]
            | false =>
              cases bch with
              | false =>
                refine ⟨.ret, [.junk, .ptr 0 0, .v (.int .i64 n), .v (.int .i64 150), .ptr 3 0, .junk, .v (.int .i64 n), .ptr (T.length + 4) 0, .v (.int .i64 r), .v (.int .i64 k), .v (.bool true), .junk, .junk, .junk, .junk, c, .v (.int .i64 l.length), .v (.int .i64 n), .v (.bool true), .v (.bool true), .junk], vH c0 c1 c2 c3 R N s'.parts s'.of s'.under s'.head false (T ++ [.box 41 (inC x)]), ?_, .inl ⟨rfl, by rw [hno]; rfl, by rw [hno]; rfl⟩⟩
                simp only [V9b, c7_18, c7_11, c7_12, c7_13, c7_14, c7_15, hlt, hw, q1, q3, z, v_bx, st, v_l0, v_l3, v_la, hrow, hch, sx, so, ap, hst, hwh, ex_2, Q122, e_callh, List.map_cons, List.map_nil, Q0, Q1, Q2, Q3, Q4, Q5, Q6, Q7, Q8, Q9, Q10, Q11, Q12, Q13, Q14, Q15, Q16, Q17, Q18, Q19, Q20, Q21, Q22, Q23, Q24, Q25, Q26, Q27, Q28, Q29, Q30, Q31, Q32, Q33, Q35, Q36, Q37, Q38, Q39, Q40, Q41, Q42, Q43, Q44, Q45, Q46, Q47, Q48, Q49, Q50, Q51, Q52, Q53, Q54, Q55, Q56, Q57, Q58, Q59, Q60, Q61, Q62, Q63, Q64, Q65, Q66, Q67, Q68, Q69, Q70, Q71, Q72, Q73, Q99, Q100, Q101, Q102, Q103, Q74, Q75, Q77, Q78, Q79, Q80, Q81, Q82, Q83, Q84, clr, List.length_nil, List.length_cons, List.getElem?_cons_zero, List.getElem?_cons_succ, Nat.reduceAdd, Nat.zero_add, Nat.add_zero, Nat.reduceLeDiff, Nat.reduceSub, ↓reduceIte, List.drop_succ_cons, List.drop_zero, List.take_succ_cons, List.take_zero, Bool.false_eq_true, List.nil_append, List.cons_append, Bool.not_true, Bool.not_false, cond_true, cond_false, bne, Q85, Q86, Q87, Q88, Q89, Q90, Q91, Q92, Q93, Q94, Q95, Q96, Q97, Q98, Q110, Q111, Q116, Q117, Q118, Q119, Q120, Q121, Q122, Q123, Option.map_some, Option.map_none]
              | true =>
                cases bst with
                | false =>
                  refine ⟨.ret, [.junk, .ptr 0 0, .v (.int .i64 n), .v (.int .i64 150), .ptr 3 0, .junk, .v (.int .i64 n), .ptr (T.length + 4) 0, .v (.int .i64 r), .v (.int .i64 k), .v (.bool true), .junk, .junk, .junk, .junk, c, .v (.int .i64 l.length), .v (.int .i64 n), .v (.bool true), .v (.bool true), .junk], vH c0 c1 c2 c3 R N s'.parts s'.of s'.under s'.head false (T ++ [.box 41 (inC x)]), ?_, .inl ⟨rfl, by rw [hno]; rfl, by rw [hno]; rfl⟩⟩
                  simp only [V9b, c7_18, c7_11, c7_12, c7_13, c7_14, c7_15, hlt, hw, q1, q3, z, v_bx, st, v_l0, v_l3, v_la, hrow, hch, sx, so, ap, hst, hwh, ex_2, Q122, e_callh, List.map_cons, List.map_nil, Q0, Q1, Q2, Q3, Q4, Q5, Q6, Q7, Q8, Q9, Q10, Q11, Q12, Q13, Q14, Q15, Q16, Q17, Q18, Q19, Q20, Q21, Q22, Q23, Q24, Q25, Q26, Q27, Q28, Q29, Q30, Q31, Q32, Q33, Q35, Q36, Q37, Q38, Q39, Q40, Q41, Q42, Q43, Q44, Q45, Q46, Q47, Q48, Q49, Q50, Q51, Q52, Q53, Q54, Q55, Q56, Q57, Q58, Q59, Q60, Q61, Q62, Q63, Q64, Q65, Q66, Q67, Q68, Q69, Q70, Q71, Q72, Q73, Q99, Q100, Q101, Q102, Q103, Q74, Q75, Q77, Q78, Q79, Q80, Q81, Q82, Q83, Q84, clr, List.length_nil, List.length_cons, List.getElem?_cons_zero, List.getElem?_cons_succ, Nat.reduceAdd, Nat.zero_add, Nat.add_zero, Nat.reduceLeDiff, Nat.reduceSub, ↓reduceIte, List.drop_succ_cons, List.drop_zero, List.take_succ_cons, List.take_zero, Bool.false_eq_true, List.nil_append, List.cons_append, Bool.not_true, Bool.not_false, cond_true, cond_false, bne, Q85, Q86, Q87, Q88, Q89, Q90, Q91, Q92, Q93, Q94, Q95, Q96, Q97, Q98, Q110, Q111, Q116, Q117, Q118, Q119, Q120, Q121, Q122, Q123, Option.map_some, Option.map_none]
                | true =>
                  cases bwh with
                  | false =>
                    refine ⟨.ret, [.junk, .ptr 0 0, .v (.int .i64 n), .v (.int .i64 150), .ptr 3 0, .junk, .v (.int .i64 n), .ptr (T.length + 4) 0, .v (.int .i64 r), .v (.int .i64 k), .v (.bool true), .junk, .junk, .junk, .junk, c, .v (.int .i64 l.length), .v (.int .i64 n), .v (.bool true), .v (.bool true), .junk], vH c0 c1 c2 c3 R N s'.parts s'.of s'.under s'.head false (T ++ [.box 41 (inC x)]), ?_, .inl ⟨rfl, by rw [hno]; rfl, by rw [hno]; rfl⟩⟩
                    simp only [V9b, c7_18, c7_11, c7_12, c7_13, c7_14, c7_15, hlt, hw, q1, q3, z, v_bx, st, v_l0, v_l3, v_la, hrow, hch, sx, so, ap, hst, hwh, ex_2, Q122, e_callh, List.map_cons, List.map_nil, Q0, Q1, Q2, Q3, Q4, Q5, Q6, Q7, Q8, Q9, Q10, Q11, Q12, Q13, Q14, Q15, Q16, Q17, Q18, Q19, Q20, Q21, Q22, Q23, Q24, Q25, Q26, Q27, Q28, Q29, Q30, Q31, Q32, Q33, Q35, Q36, Q37, Q38, Q39, Q40, Q41, Q42, Q43, Q44, Q45, Q46, Q47, Q48, Q49, Q50, Q51, Q52, Q53, Q54, Q55, Q56, Q57, Q58, Q59, Q60, Q61, Q62, Q63, Q64, Q65, Q66, Q67, Q68, Q69, Q70, Q71, Q72, Q73, Q99, Q100, Q101, Q102, Q103, Q74, Q75, Q77, Q78, Q79, Q80, Q81, Q82, Q83, Q84, clr, List.length_nil, List.length_cons, List.getElem?_cons_zero, List.getElem?_cons_succ, Nat.reduceAdd, Nat.zero_add, Nat.add_zero, Nat.reduceLeDiff, Nat.reduceSub, ↓reduceIte, List.drop_succ_cons, List.drop_zero, List.take_succ_cons, List.take_zero, Bool.false_eq_true, List.nil_append, List.cons_append, Bool.not_true, Bool.not_false, cond_true, cond_false, bne, Q85, Q86, Q87, Q88, Q89, Q90, Q91, Q92, Q93, Q94, Q95, Q96, Q97, Q98, Q110, Q111, Q116, Q117, Q118, Q119, Q120, Q121, Q122, Q123, Option.map_some, Option.map_none]
                  | true =>
                    simp at good
      · have hne : n = l.length := by omega
        subst hne
        have hlt := lt_f (n := l.length)
        refine ⟨.exit 2, [.junk, .ptr 0 0, .junk, .junk, .ptr 3 0, .junk, .junk, .junk, .junk, .junk, .junk, .junk, .junk, .junk, .junk, c, .v (.int .i64 l.length), .v (.int .i64 l.length), .v (.bool false), .junk, .junk], _, ?_, .inr ⟨rfl, ⟨_, rfl⟩, R, N, s', T, rfl, ?_⟩⟩
        · simp only [V9b, c7_18, c7_11, hlt, Q0, Q1, Q2, Q3, Q4, Q5, Q6, Q7, Q8, Q9, Q10, Q11, Q12, Q13, Q14, Q15, Q16, Q17, Q18, Q19, Q20, Q21, Q22, Q23, Q24, Q25, Q26, Q27, Q28, Q29, Q30, Q31, Q32, Q33, Q35, Q36, Q37, Q38, Q39, Q40, Q41, Q42, Q43, Q44, Q45, Q46, Q47, Q48, Q49, Q50, Q51, Q52, Q53, Q54, Q55, Q56, Q57, Q58, Q59, Q60, Q61, Q62, Q63, Q64, Q65, Q66, Q67, Q68, Q69, Q70, Q71, Q72, Q73, Q99, Q100, Q101, Q102, Q103, Q74, Q75, Q77, Q78, Q79, Q80, Q81, Q82, Q83, Q84, clr, List.length_nil, List.length_cons, List.getElem?_cons_zero, List.getElem?_cons_succ, Nat.reduceAdd, Nat.zero_add, Nat.add_zero, Nat.reduceLeDiff, Nat.reduceSub, ↓reduceIte, List.drop_succ_cons, List.drop_zero, List.take_succ_cons, List.take_zero, Bool.false_eq_true, List.nil_append, List.cons_append, Bool.not_true, Bool.not_false, cond_true, cond_false, bne, Q85, Q86, Q87, Q88, Q89, Q90, Q91, Q92, Q93, Q94, Q95, Q96, Q97, Q98, Q110, Q111, Q116, Q117, Q118, Q119, Q120, Q121, Q122, Q123, Option.map_some, Option.map_none]
        · rw [hrun, List.drop_length]; rfl)
  exact ⟨e, v', h', g1, g3⟩
end
end Go.AE.YtghgbbiklkpbnaaDoor.Chk
end
