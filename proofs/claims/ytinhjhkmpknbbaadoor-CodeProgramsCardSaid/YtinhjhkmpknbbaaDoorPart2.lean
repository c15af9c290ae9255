/- Texts of this claim, put together. -/
import Derived.Test.YtinhjhkmpknbbaaDoorPart1
import Derived.Test.YtinhjhkmpknbbaaDoorEval3
set_option linter.unusedSimpArgs false
set_option linter.unusedVariables false
section
namespace Go.AE.YtinhjhkmpknbbaaDoor
open Go Go.AE Go.Proofs.YtinhjhkmpknbbaaDoor

section
variable {H : List AO} {l : List AO}
theorem h_ld {a : Bool} {sz k o : Nat} : Q76 (H ++ l) a sz (.ptr (H.length + k) o) = ldAt l k a sz o := own_ld rfl
theorem h_ld0 {a : Bool} {sz o : Nat} : Q76 (H ++ l) a sz (.ptr H.length o) = ldAt l 0 a sz o := own_ld0 rfl
theorem h_st {sz k o : Nat} {x : AV} : Q113 (H ++ l) sz (.ptr (H.length + k) o) x = preH H (stAt l sz k o x) := own_st rfl
theorem h_st0 {sz o : Nat} {x : AV} : Q113 (H ++ l) sz (.ptr H.length o) x = preH H (stAt l sz 0 o x) := own_st0 rfl
theorem h_bx {bt : TypeId} {cs : List AV} : bx (H ++ l) bt (some cs) = some (.ptr (H.length + l.length) 0, H ++ (l ++ [.box bt cs])) := own_bx rfl
end

def ents (l : List Int) : List (Value × AV) := l.map fun n => (.int .i64 n, .v (.int .i64 1))
theorem ents_look : ∀ (l : List Int) (n : Int), look (.int .i64 n) (ents l) = if n ∈ l then some (.v (.int .i64 1)) else none
 | [], n => by simp [ents, look]
 | k :: l, n => by
  have ih := ents_look l n
  simp only [ents, List.map_cons, look, keyEq_int] at ih ⊢
  by_cases h : n = k
  ·subst h; simp
  ·have h1 : (n == k) = false := by simpa using h
   rw [h1, ih]
   by_cases h2 : n ∈ l <;> simp [h, h2]
theorem ents_upd : ∀ (l : List Int) (n : Int), upd (.int .i64 n) (.v (.int .i64 1)) (ents l) = ents (if n ∈ l then l else l ++ [n])
 | [], n => by simp [ents, upd]
 | k :: l, n => by
  have ih := ents_upd l n
  simp only [ents, List.map_cons, upd, keyEq_int] at ih ⊢
  by_cases h : n = k
  ·subst h; simp
  ·have h1 : (n == k) = false := by simpa using h
   rw [h1]
   simp only [Bool.false_eq_true, if_false]
   rw [ih]
   by_cases h2 : n ∈ l <;> simp [h, h2]
structure Cp (h : List AO) (b rl m : Nat) (code : List Op5) (g : Sg) (Q : AV) : Prop where
 ob : Ob h b rl 92 (.mp m) [Q] code g.next
 mp : ∃ c, h[m]? = some (.map (.int .i64) c (ents g.met))
 bel : h.all (AO.below h.length) = true
theorem Cp.mb {h : List AO} {b rl m : Nat} {code : List Op5} {g : Sg} {Q : AV} (c : Cp h b rl m code g Q) : m ≠ b ∧ m ≠ rl ∧ m < h.length := by
 obtain ⟨x, hx⟩ := c.mp
 obtain ⟨ver, h1, h2⟩ := c.ob.ex
 refine ⟨?_, ?_, (List.getElem?_eq_some_iff.1 hx).1⟩
 ·rintro rfl; rw [h1] at hx; cases hx
 ·rintro rfl; rw [h2] at hx; cases hx
theorem Cp.lay {h : List AO} {b rl m : Nat} {code : List Op5} {g : Sg} {Q : AV} (c : Cp h b rl m code g Q) (hn : code.length ≤ 900000) (i : Op5) :
  ∃ h', callW F 59 [.ptr b 0, o5 i] h = some (.tup [], h') ∧ Cp h' b rl m (code ++ [i]) g Q ∧ Rs [b, rl, m] h h' := by
 obtain ⟨h', g1, g2, g3, g4⟩ := c.ob.lay (f := 59) rfl c.bel hn i
 obtain ⟨m1, m2, _⟩ := c.mb
 obtain ⟨x, hx⟩ := c.mp
 refine ⟨h', g1, ⟨g2, ⟨x, (g3.2 m (by simp [m1, m2])).trans hx⟩, g4⟩, g3.sub (by simp)⟩
theorem Cp.temp {h : List AO} {b rl m : Nat} {code : List Op5} {g : Sg} {Q : AV} (c : Cp h b rl m code g Q) (hn : g.next ≤ 3000000) :
  ∃ h', callW F 87 [.ptr b 0] h = some (.v (.int .i64 g.next), h') ∧ Cp h' b rl m code { g with next := g.next + 1 } Q ∧ Rs [b, rl, m] h h' := by
 obtain ⟨h', g1, g2, g3, g4⟩ := c.ob.temp (f := 87) rfl c.bel hn
 obtain ⟨m1, m2, _⟩ := c.mb
 obtain ⟨x, hx⟩ := c.mp
 refine ⟨h', g1, ⟨g2, ⟨x, (g3.2 m (by simp [m1, m2])).trans hx⟩, g4⟩, g3.sub (by simp)⟩
theorem Cp.app {h : List AO} {b rl m : Nat} {code : List Op5} {g : Sg} {Q : AV} (c : Cp h b rl m code g Q) {l : List AO} (hl : l.all (AO.below (h ++ l).length) = true) : Cp (h ++ l) b rl m code g Q := by
 obtain ⟨x, hx⟩ := c.mp
 refine ⟨c.ob.app l, ⟨x, his_get hx⟩, ?_⟩
 rw [List.all_append, Bool.and_eq_true]
 exact ⟨all_below_mono (by simp) c.bel, hl⟩
theorem Cp.name {h : List AO} {b rl m : Nat} {code : List Op5} {g : Sg} {Q : AV} (c : Cp h b rl m code g Q) (n : Int) :
  ∃ h', (∀ l : List AO, evUpd (h ++ l) (.int .i64) (.mp m) (.v (.int .i64 n)) (.v (.int .i64 1)) = some (h' ++ l)) ∧ Cp h' b rl m code { g with met := if n ∈ g.met then g.met else g.met ++ [n] } Q ∧ Rs [b, rl, m] h h' := by
 obtain ⟨m1, m2, m3⟩ := c.mb
 obtain ⟨x, hx⟩ := c.mp
 have hrs : Rs [b, rl, m] h (h.set m (.map (.int .i64) x (ents (if n ∈ g.met then g.met else g.met ++ [n])))) := Rs.set (by simp)
 have hmm : (h.set m (.map (.int .i64) x (ents (if n ∈ g.met then g.met else g.met ++ [n]))))[m]? = some (.map (.int .i64) x (ents (if n ∈ g.met then g.met else g.met ++ [n]))) := by simp [m3]
 refine ⟨_, fun l => ?_, ⟨c.ob.of (List.getElem?_set_ne m1) (List.getElem?_set_ne m2), ⟨x, hmm⟩, ?_⟩, hrs⟩
 ·have s : (AV.v (.int .i64 1)).snap1 (h ++ l) = some (.v (.int .i64 1)) := rfl
  simp only [evUpd, his_get hx, s, KK.ok, decide_true, and_self, if_true, ents_upd]
  rw [set_app m3]
 ·have hb := c.bel
  rw [List.all_eq_true] at hb ⊢
  intro o ho
  rw [List.length_set]
  rcases List.mem_or_eq_of_mem_set ho with h' | rfl
  ·exact hb o h'
  ·rfl
theorem Cp.met {h : List AO} {b rl m : Nat} {code : List Op5} {g : Sg} {Q : AV} (c : Cp h b rl m code g Q) (n : Int) (l : List AO) : evLook (h ++ l) (.int .i64) (.int .i64 0) false (.mp m) (.v (.int .i64 n)) = some (.v (.int .i64 (if n ∈ g.met then 1 else 0))) := by
 obtain ⟨x, hx⟩ := c.mp
 simp only [evLook, his_get hx, KK.ok, decide_true, and_self, if_true, ents_look]
 by_cases h : n ∈ g.met <;> simp [h]
theorem Cp.ldm {h : List AO} {b rl m : Nat} {code : List Op5} {g : Sg} {Q : AV} (c : Cp h b rl m code g Q) (l : List AO) : Q76 (h ++ l) false 1 (.ptr b 1) = some (.mp m) := by
 obtain ⟨ver, h1, _⟩ := c.ob.ex
 rw [bx_ld (his_get h1)]; simp [Q77]
theorem Cp.part {h l h2 : List AO} {b rl m : Nat} {code code' : List Op5} {g g' : Sg} {Q : AV} (cp1 : Cp h b rl m code g Q) (cp2 : Cp h2 b rl m code' g' Q) (rs : Rs [b, rl, m] (h ++ l) h2) :
  ∃ h3, h2 = h3 ++ l ∧ Cp h3 b rl m code' g' Q ∧ Rs [b, rl, m] h h3 := by
 have hlt := cp1.mb.2.2
 have hlb := cp1.ob.ltb
 have hlr := cp1.ob.ltr
 have hsz : h2.length = h.length + l.length := by rw [rs.1]; simp
 have hdrop : h2.drop h.length = l := by
  apply List.ext_getElem?
  intro j
  rw [List.getElem?_drop]
  have hj : h.length + j ∉ [b, rl, m] := by simp; omega
  rw [rs.2 _ hj, List.getElem?_append_right (by omega), Nat.add_sub_cancel_left]
 have get : ∀ j, j < h.length → (h2.take h.length)[j]? = h2[j]? := fun j hj => by rw [List.getElem?_take_of_lt hj]
 have hl : (h2.take h.length).length = h.length := by simp [hsz]
 have rs3 : Rs [b, rl, m] h (h2.take h.length) := by
  refine ⟨hl, fun j hj => ?_⟩
  by_cases hjl : j < h.length
  ·rw [get j hjl, rs.2 j hj, List.getElem?_append_left hjl]
  ·rw [List.getElem?_eq_none (by omega), List.getElem?_eq_none (by omega)]
 refine ⟨h2.take h.length, by rw [← hdrop, List.take_append_drop], ?_, rs3⟩
 obtain ⟨x, hx⟩ := cp2.mp
 refine ⟨cp2.ob.of (get b hlb) (get rl hlr), ⟨x, (get m hlt).trans hx⟩, ?_⟩
 refine rs3.below cp1.bel fun j hj o ho => ?_
 simp only [List.mem_cons, List.not_mem_nil, or_false] at hj
 rcases hj with rfl | rfl | rfl
 ·obtain ⟨ver, e1, e2⟩ := (cp2.ob.of (get j hlb) (get rl hlr)).ex
  obtain ⟨ver1, f1, f2⟩ := cp1.ob.ex
  have hX : (AO.box 92 (.own 5 rl ver1 0 code.length :: AV.mp m :: .v (.int .i64 g.next) :: [Q])).below h.length = true := (List.all_eq_true.1 cp1.bel) _ (List.mem_of_getElem? f1)
  rw [e1] at ho; cases ho
  simp only [AO.below, List.all_cons, AV.below1, AV.below0, Bool.and_eq_true] at hX ⊢
  rw [hl]; exact hX
 ·obtain ⟨ver, e1, e2⟩ := (cp2.ob.of (get b hlb) (get j hlr)).ex
  rw [e2] at ho; cases ho; rfl
 ·rw [(get j hlt).trans hx] at ho; cases ho; rfl
theorem Cp.layA {h : List AO} {b rl m : Nat} {code : List Op5} {g : Sg} {Q : AV} (c : Cp h b rl m code g Q) (hn : code.length ≤ 900000) (l : List AO) (hl : l.all (AO.below (h ++ l).length) = true) (i : Op5) :
  ∃ h', callW F 59 [.ptr b 0, o5 i] (h ++ l) = some (.tup [], h' ++ l) ∧ Cp h' b rl m (code ++ [i]) g Q ∧ Rs [b, rl, m] h h' := by
 obtain ⟨h2, g1, cp2, rs2⟩ := (c.app hl).lay hn i
 obtain ⟨h3, e, cp3, rs3⟩ := c.part cp2 rs2
 exact ⟨h3, by rw [g1, e], cp3, rs3⟩
theorem Cp.tempA {h : List AO} {b rl m : Nat} {code : List Op5} {g : Sg} {Q : AV} (c : Cp h b rl m code g Q) (hn : g.next ≤ 3000000) (l : List AO) (hl : l.all (AO.below (h ++ l).length) = true) :
  ∃ h', callW F 87 [.ptr b 0] (h ++ l) = some (.v (.int .i64 g.next), h' ++ l) ∧ Cp h' b rl m code { g with next := g.next + 1 } Q ∧ Rs [b, rl, m] h h' := by
 obtain ⟨h2, g1, cp2, rs2⟩ := (c.app hl).temp hn
 obtain ⟨h3, e, cp3, rs3⟩ := c.part cp2 rs2
 exact ⟨h3, by rw [g1, e], cp3, rs3⟩
theorem leave1 {c : CFun} {vars : List AV} {H l : List AO} {B : Nat} (hB : H.length = B) (hb : H.all (AO.below B) = true) {i : Nat} {x : Value} (hc : c.res = [.var i]) (hr : vars.getD i .junk = .v x) : leave B c (some (.ret, vars, H ++ l)) = some (.v x, H) := by
 rw [leave_own hB hb, hc]
 have : [CRes.var i].mapM (resOf vars (H ++ l)) = some [.v x] := by
  simp only [List.mapM_cons, List.mapM_nil, resOf, hr, Option.pure_def, Option.bind_eq_bind, Option.bind_some]
 rw [this]
 exact lvo_one rfl
theorem st_at {h : List AO} {B : Nat} (hB : h.length = B) (X : AO) (ic : List AV) (o : Nat) (x : Value) (hx : x.oneCell' = true) (ho : o < ic.length) : Q113 (h ++ [X, .box 58 ic]) 1 (.ptr (B + 1) o) (.v x) = some (h ++ [X, .box 58 (ic.set o (.v x))]) := by
 subst hB
 have : o + 1 ≤ ic.length := ho
 rw [h_st]
 simp [stAt, AV.cl, hx, this, Q112, preH_some]
def pV (b : Nat) (B : Nat) (op r k n : Int) (s : ByteArray) (c : AV) (x8 x9 x10 : AV) : List AV := [.ptr b 0, .v (.int .i64 op), .v (.int .i64 r), .agg [.v (.int .i64 k), .v (.string s), .v (.int .i64 n), c], .ptr B 0, .v (.bool false), .ptr (B + 1) 0, .v (.int .i64 k), x8, x9, x10]
def pTail : CC := .seq (.region [] [] c86_14) (.seq (.region [] [] c86_15) .ret)
theorem c86_body : c86.body = (.seq (.region [] [] c86_0) (.seq (.region [] [] c86_1) (.seq (.seq (.region [] [] c86_2) (.block 0 (.seq (.region [] [] c86_3) (.cond (.var 8) (.seq (.region [] [] c86_4) (.seq (.region [] [] c86_5) (.region [] [] c86_6))) (.seq (.region [] [] c86_7) (.cond (.var 9) (.seq (.region [] [] c86_8) (.region [] [] c86_9)) (.seq (.region [] [] c86_10) (.cond (.var 10) (.seq (.region [] [] c86_11) (.region [] [] c86_12)) (.seq (.region [] [] c86_13) .ret))))))))) pTail))) := rfl
theorem plain_end {h h1 : List AO} {b rl m : Nat} {code : List Op5} {g : Sg} {Q : AV} (cp1 : Cp h1 b rl m code g Q) (rs1 : Rs [b, rl, m] h h1) (hn : code.length ≤ 900000) {op r k n : Int} {s : ByteArray} {c : AV} {l : List Tm} (hc : IsL c l) (i : Op5) (x8 x9 x10 : AV)
  (hex : exec (callW F) 0 c86.body (start c86 [.ptr b 0, .v (.int .i64 op), .v (.int .i64 r), .agg [.v (.int .i64 k), .v (.string s), .v (.int .i64 n), c]]) (h ++ []) = exec (callW F) 0 pTail (pV b h.length op r k n s c x8 x9 x10) (h1 ++ [.box 24 [.v (.int .i64 k), .v (.string s), .v (.int .i64 n), c], .box 58 (o5 i).cells])) :
  ∃ h', callW F 86 [.ptr b 0, .v (.int .i64 op), .v (.int .i64 r), .agg [.v (.int .i64 k), .v (.string s), .v (.int .i64 n), c]] h = some (.v (.bool true), h') ∧ Cp h' b rl m (code ++ [i]) g Q ∧ Rs [b, rl, m] h h' := by
 obtain ⟨h3, g1, cp3, rs3⟩ := cp1.layA hn [.box 24 [.v (.int .i64 k), .v (.string s), .v (.int .i64 n), c], .box 58 (o5 i).cells] (by cases hc <;> rfl) i
 have rsT := rs1.trans rs3
 refine ⟨h3, callW_own (c := c86) rfl rfl 0 ?_, cp3, rsT⟩
 rw [hex]
 have lvv : leave h.length c86 (some (.ret, [.ptr b 0, .v (.int .i64 op), .v (.int .i64 r), .agg [.v (.int .i64 k), .v (.string s), .v (.int .i64 n), c], .ptr h.length 0, .v (.bool true), .ptr (h.length + 1) 0, .v (.int .i64 k), x8, x9, x10], h3 ++ [.box 24 [.v (.int .i64 k), .v (.string s), .v (.int .i64 n), c], .box 58 (o5 i).cells])) = some (.v (.bool true), h3) := leave1 rsT.1 (by rw [← rsT.1]; exact cp3.bel) (i := 5) rfl rfl
 rw [← lvv]
 congr 1
 have ld : Q76 (h1 ++ [.box 24 [.v (.int .i64 k), .v (.string s), .v (.int .i64 n), c], .box 58 (o5 i).cells]) true 5 (.ptr (h.length + 1) 0) = some (o5 i) := by
  rw [← rs1.1, h_ld]; rfl
 generalize [AO.box 24 [.v (.int .i64 k), .v (.string s), .v (.int .i64 n), c], .box 58 (o5 i).cells] = l3 at *
 simp only [pTail, pV, c86_14, c86_15, ld, e_callh, List.map_cons, List.map_nil, g1, Q0, Q1, Q2, Q3, Q4, Q5, Q6, Q7, Q8, Q9, Q10, Q11, Q12, Q13, Q14, Q15, Q16, Q17, Q18, Q19, Q20, Q21, Q22, Q23, Q24, Q25, Q26, Q27, Q28, Q29, Q30, Q31, Q32, Q33, Q35, Q36, Q37, Q38, Q39, Q40, Q41, Q42, Q43, Q44, Q45, Q46, Q47, Q48, Q49, Q50, Q51, Q52, Q53, Q54, Q55, Q56, Q57, Q58, Q59, Q60, Q61, Q62, Q63, Q64, Q65, Q66, Q67, Q68, Q69, Q70, Q71, Q72, Q73, Q99, Q100, Q101, Q102, Q103, Q74, Q75, Q77, Q78, Q79, Q80, Q81, Q82, Q83, Q84, clr, List.length_nil, List.length_cons, List.getElem?_cons_zero, List.getElem?_cons_succ, Nat.reduceAdd, Nat.zero_add, Nat.add_zero, Nat.reduceLeDiff, Nat.reduceSub, ↓reduceIte, List.drop_succ_cons, List.drop_zero, List.take_succ_cons, List.take_zero, Bool.false_eq_true, List.nil_append, List.cons_append, Bool.not_true, Bool.not_false, cond_true, cond_false, bne, Q85, Q86, Q87, Q88, Q89, Q90, Q91, Q92, Q93, Q94, Q95, Q96, Q97, Q98, Q110, Q111, Q116, Q117, Q118, Q119, Q120, Q121, Q122, Q123, Option.map_some, Option.map_none]
theorem plain_ok {h : List AO} {b rl m : Nat} {code : List Op5} {g : Sg} {Q : AV} (cp : Cp h b rl m code g Q) (hn : code.length ≤ 900000) {a : AV} {t : Tm} (ha : IsT a t) (hw : isC t = false → t.k = 1 ∨ t.k = 2 ∨ t.k = 3) {op r : Int} (h0 : 0 ≤ op) (h1 : op ≤ 100) :
  (isC t = true ∧ callW F 86 [.ptr b 0, .v (.int .i64 op), .v (.int .i64 r), a] h = some (.v (.bool false), h)) ∨
  (isC t = false ∧ ∃ h', callW F 86 [.ptr b 0, .v (.int .i64 op), .v (.int .i64 r), a] h = some (.v (.bool true), h') ∧ Cp h' b rl m (code ++ [pIns op r g t]) (pSg g t) Q ∧ Rs [b, rl, m] h h') := by
 have q5 : (ofVal (.agg #[(.int .i64 0), (.int .i64 0), (.int .i64 0), (.string ⟨#[]⟩), (.int .i64 0)])).cl = some [.v (.int .i64 0), .v (.int .i64 0), .v (.int .i64 0), .v (.string ⟨#[]⟩), .v (.int .i64 0)] := by simp [ofVal, AV.cl, Value.oneCell']
 have ldm := cp.ldm
 cases ha with
 | mk k s n c l hc =>
 by_cases k4 : k = 4
 ·left
  have e1 : (k == 1) = false := by simp [k4]
  have e2 : (k == 2) = false := by simp [k4]
  have e3 : (k == 3) = false := by simp [k4]
  refine ⟨by simp [isC, Tm.k, k4], callW_own (c := c86) rfl rfl 0 ?_⟩
  have lvv : leave h.length c86 (some (.ret, [.ptr b 0, .v (.int .i64 op), .v (.int .i64 r), .agg [.v (.int .i64 k), .v (.string s), .v (.int .i64 n), c], .ptr h.length 0, .v (.bool false), .ptr (h.length + 1) 0, .v (.int .i64 k), .v (.bool false), .v (.bool false), .v (.bool false)], h ++ [.box 24 [.v (.int .i64 k), .v (.string s), .v (.int .i64 n), c], .box 58 [.v (.int .i64 op), .v (.int .i64 r), .v (.int .i64 0), .v (.string ⟨#[]⟩), .v (.int .i64 0)]])) = some (.v (.bool false), h) := leave1 rfl cp.bel (i := 5) rfl rfl
  rw [← lvv]
  congr 1
  simp only [c86, start, List.replicate, c86_0, c86_1, c86_2, c86_3, c86_7, c86_10, c86_13, e1, e2, e3, q5, h_bx, h_ld, h_ld0, h_st, h_st0, ldAt, stAt, preH_some, Q104, Q105, bs1, bs2, Q106, Q107, Q108, Q109, bd1, Q110, Q111, toL, List.map_cons, List.map_nil, Q112, List.set_cons_zero, List.set_cons_succ, and_self, Nat.le_refl, Q114, Q115, Q116, Q0, Q1, Q2, Q3, Q4, Q5, Q6, Q7, Q8, Q9, Q10, Q11, Q12, Q13, Q14, Q15, Q16, Q17, Q18, Q19, Q20, Q21, Q22, Q23, Q24, Q25, Q26, Q27, Q28, Q29, Q30, Q31, Q32, Q33, Q35, Q36, Q37, Q38, Q39, Q40, Q41, Q42, Q43, Q44, Q45, Q46, Q47, Q48, Q49, Q50, Q51, Q52, Q53, Q54, Q55, Q56, Q57, Q58, Q59, Q60, Q61, Q62, Q63, Q64, Q65, Q66, Q67, Q68, Q69, Q70, Q71, Q72, Q73, Q99, Q100, Q101, Q102, Q103, Q74, Q75, Q77, Q78, Q79, Q80, Q81, Q82, Q83, Q84, clr, List.length_nil, List.length_cons, List.getElem?_cons_zero, List.getElem?_cons_succ, Nat.reduceAdd, Nat.zero_add, Nat.add_zero, Nat.reduceLeDiff, Nat.reduceSub, ↓reduceIte, List.drop_succ_cons, List.drop_zero, List.take_succ_cons, List.take_zero, Bool.false_eq_true, List.nil_append, List.cons_append, Bool.not_true, Bool.not_false, cond_true, cond_false, bne, Q85, Q86, Q87, Q88, Q89, Q90, Q91, Q92, Q93, Q94, Q95, Q96, Q97, Q98, Q110, Q111, Q116, Q117, Q118, Q119, Q120, Q121, Q122, Q123, Option.map_some, Option.map_none]
 ·right
  have hisC : isC (.mk k s n l) = false := by simp [isC, Tm.k, k4]
  refine ⟨hisC, ?_⟩
  have hk := hw hisC
  simp only [Tm.k] at hk
  rcases hk with rfl | rfl | rfl
  ·-- a variable
   obtain ⟨h1', u1, cp1, rs1⟩ := cp.name n
   have e1 : ((1 : Int) == 1) = true := rfl
   have hm := cp.met n
   have ldn : ∀ X : AO, Q76 (h1' ++ [.box 24 [.v (.int .i64 1), .v (.string s), .v (.int .i64 n), c], X]) false 1 (.ptr h.length 2) = some (.v (.int .i64 n)) := by
    intro X
    rw [← rs1.1, h_ld0]; rfl
   have sA := st_at (h := h) rfl (.box 24 [.v (.int .i64 1), .v (.string s), .v (.int .i64 n), c])
   have sB := st_at (h := h1') rs1.1 (.box 24 [.v (.int .i64 1), .v (.string s), .v (.int .i64 n), c])
   obtain ⟨z, hz⟩ : ∃ z : Int, (if n ∈ g.met then (1 : Int) else 0) = z := ⟨_, rfl⟩
   rw [hz] at hm
   have hw1 : IntKind.i64.wrap (op + z) = op + z := wrap_ok (by split at hz <;> omega) (by split at hz <;> omega)
   have s1 := sA [.v (.int .i64 op), .v (.int .i64 r), .v (.int .i64 0), .v (.string ⟨#[]⟩), .v (.int .i64 0)] 0 (.int .i64 (op + z)) rfl (by simp)
   have s2 := sB [.v (.int .i64 (op + z)), .v (.int .i64 r), .v (.int .i64 0), .v (.string ⟨#[]⟩), .v (.int .i64 0)] 2 (.int .i64 n) rfl (by simp)
   simp only [List.set_cons_zero, List.set_cons_succ] at s1 s2
   have hgi : pSg g (.mk 1 s n l) = { g with met := if n ∈ g.met then g.met else g.met ++ [n] } := by
    simp only [pSg, if_true]; split <;> rfl
   have hii : pIns op r g (.mk 1 s n l) = ⟨op + z, r, n, nos, 0⟩ := by
    simp only [pIns, if_true, ← hz]; split <;> simp
   rw [hgi, hii]
   refine plain_end cp1 rs1 hn hc _ (.v (.bool true)) (.v undef) (.v undef) ?_
   rw [c86_body]
   generalize pTail = rest
   simp only [pV, o5, nos, AV.cells, c86, start, List.replicate, c86_0, c86_1, c86_2, c86_3, c86_4, c86_5, c86_6, e1, q5, ldm, hm, u1, hw1, s1, s2, ldn, e_lookup, e_mapupd, h_bx, h_ld, h_ld0, h_st, h_st0, ldAt, stAt, preH_some, Q104, Q105, bs1, bs2, Q106, Q107, Q108, Q109, bd1, Q110, Q111, toL, List.map_cons, List.map_nil, Q112, List.set_cons_zero, List.set_cons_succ, and_self, Nat.le_refl, Q114, Q115, Q116, Q0, Q1, Q2, Q3, Q4, Q5, Q6, Q7, Q8, Q9, Q10, Q11, Q12, Q13, Q14, Q15, Q16, Q17, Q18, Q19, Q20, Q21, Q22, Q23, Q24, Q25, Q26, Q27, Q28, Q29, Q30, Q31, Q32, Q33, Q35, Q36, Q37, Q38, Q39, Q40, Q41, Q42, Q43, Q44, Q45, Q46, Q47, Q48, Q49, Q50, Q51, Q52, Q53, Q54, Q55, Q56, Q57, Q58, Q59, Q60, Q61, Q62, Q63, Q64, Q65, Q66, Q67, Q68, Q69, Q70, Q71, Q72, Q73, Q99, Q100, Q101, Q102, Q103, Q74, Q75, Q77, Q78, Q79, Q80, Q81, Q82, Q83, Q84, clr, List.length_nil, List.length_cons, List.getElem?_cons_zero, List.getElem?_cons_succ, Nat.reduceAdd, Nat.zero_add, Nat.add_zero, Nat.reduceLeDiff, Nat.reduceSub, ↓reduceIte, List.drop_succ_cons, List.drop_zero, List.take_succ_cons, List.take_zero, Bool.false_eq_true, List.nil_append, List.cons_append, Bool.not_true, Bool.not_false, cond_true, cond_false, bne, Q85, Q86, Q87, Q88, Q89, Q90, Q91, Q92, Q93, Q94, Q95, Q96, Q97, Q98, Q110, Q111, Q116, Q117, Q118, Q119, Q120, Q121, Q122, Q123, Option.map_some, Option.map_none]
  ·-- an atom
   have e1 : ((2 : Int) == 1) = false := rfl
   have e2 : ((2 : Int) == 2) = true := rfl
   have hw1 : IntKind.i64.wrap (op + 2) = op + 2 := wrap_ok (by omega) (by omega)
   have hgi : pSg g (.mk 2 s n l) = g := by simp [pSg]
   have hii : pIns op r g (.mk 2 s n l) = ⟨op + 2, r, 0, s, 0⟩ := by simp [pIns]
   have sA := st_at (h := h) rfl (.box 24 [.v (.int .i64 2), .v (.string s), .v (.int .i64 n), c])
   have s1 := sA [.v (.int .i64 op), .v (.int .i64 r), .v (.int .i64 0), .v (.string ⟨#[]⟩), .v (.int .i64 0)] 0 (.int .i64 (op + 2)) rfl (by simp)
   have s2 := sA [.v (.int .i64 (op + 2)), .v (.int .i64 r), .v (.int .i64 0), .v (.string ⟨#[]⟩), .v (.int .i64 0)] 3 (.string s) rfl (by simp)
   simp only [List.set_cons_zero, List.set_cons_succ] at s1 s2
   rw [hgi, hii]
   refine plain_end cp (.refl h) hn hc _ (.v (.bool false)) (.v (.bool true)) (.v undef) ?_
   rw [c86_body]
   generalize pTail = rest
   simp only [pV, o5, nos, AV.cells, c86, start, List.replicate, c86_0, c86_1, c86_2, c86_3, c86_7, c86_8, c86_9, e1, e2, q5, hw1, s1, s2, h_bx, h_ld, h_ld0, h_st, h_st0, ldAt, stAt, preH_some, Q104, Q105, bs1, bs2, Q106, Q107, Q108, Q109, bd1, Q110, Q111, toL, List.map_cons, List.map_nil, Q112, List.set_cons_zero, List.set_cons_succ, and_self, Nat.le_refl, Q114, Q115, Q116, Q0, Q1, Q2, Q3, Q4, Q5, Q6, Q7, Q8, Q9, Q10, Q11, Q12, Q13, Q14, Q15, Q16, Q17, Q18, Q19, Q20, Q21, Q22, Q23, Q24, Q25, Q26, Q27, Q28, Q29, Q30, Q31, Q32, Q33, Q35, Q36, Q37, Q38, Q39, Q40, Q41, Q42, Q43, Q44, Q45, Q46, Q47, Q48, Q49, Q50, Q51, Q52, Q53, Q54, Q55, Q56, Q57, Q58, Q59, Q60, Q61, Q62, Q63, Q64, Q65, Q66, Q67, Q68, Q69, Q70, Q71, Q72, Q73, Q99, Q100, Q101, Q102, Q103, Q74, Q75, Q77, Q78, Q79, Q80, Q81, Q82, Q83, Q84, clr, List.length_nil, List.length_cons, List.getElem?_cons_zero, List.getElem?_cons_succ, Nat.reduceAdd, Nat.zero_add, Nat.add_zero, Nat.reduceLeDiff, Nat.reduceSub, ↓reduceIte, List.drop_succ_cons, List.drop_zero, List.take_succ_cons, List.take_zero, Bool.false_eq_true, List.nil_append, List.cons_append, Bool.not_true, Bool.not_false, cond_true, cond_false, bne, Q85, Q86, Q87, Q88, Q89, Q90, Q91, Q92, Q93, Q94, Q95, Q96, Q97, Q98, Q110, Q111, Q116, Q117, Q118, Q119, Q120, Q121, Q122, Q123, Option.map_some, Option.map_none]
  ·-- a number
   have e1 : ((3 : Int) == 1) = false := rfl
   have e2 : ((3 : Int) == 2) = false := rfl
   have e3 : ((3 : Int) == 3) = true := rfl
   have hw1 : IntKind.i64.wrap (op + 3) = op + 3 := wrap_ok (by omega) (by omega)
   have hgi : pSg g (.mk 3 s n l) = g := by simp [pSg]
   have hii : pIns op r g (.mk 3 s n l) = ⟨op + 3, r, 0, nos, n⟩ := by simp [pIns]
   have sA := st_at (h := h) rfl (.box 24 [.v (.int .i64 3), .v (.string s), .v (.int .i64 n), c])
   have s1 := sA [.v (.int .i64 op), .v (.int .i64 r), .v (.int .i64 0), .v (.string ⟨#[]⟩), .v (.int .i64 0)] 0 (.int .i64 (op + 3)) rfl (by simp)
   have s2 := sA [.v (.int .i64 (op + 3)), .v (.int .i64 r), .v (.int .i64 0), .v (.string ⟨#[]⟩), .v (.int .i64 0)] 4 (.int .i64 n) rfl (by simp)
   simp only [List.set_cons_zero, List.set_cons_succ] at s1 s2
   rw [hgi, hii]
   refine plain_end cp (.refl h) hn hc _ (.v (.bool false)) (.v (.bool false)) (.v (.bool true)) ?_
   rw [c86_body]
   generalize pTail = rest
   simp only [pV, o5, nos, AV.cells, c86, start, List.replicate, c86_0, c86_1, c86_2, c86_3, c86_7, c86_10, c86_11, c86_12, e1, e2, e3, q5, hw1, s1, s2, h_bx, h_ld, h_ld0, h_st, h_st0, ldAt, stAt, preH_some, Q104, Q105, bs1, bs2, Q106, Q107, Q108, Q109, bd1, Q110, Q111, toL, List.map_cons, List.map_nil, Q112, List.set_cons_zero, List.set_cons_succ, and_self, Nat.le_refl, Q114, Q115, Q116, Q0, Q1, Q2, Q3, Q4, Q5, Q6, Q7, Q8, Q9, Q10, Q11, Q12, Q13, Q14, Q15, Q16, Q17, Q18, Q19, Q20, Q21, Q22, Q23, Q24, Q25, Q26, Q27, Q28, Q29, Q30, Q31, Q32, Q33, Q35, Q36, Q37, Q38, Q39, Q40, Q41, Q42, Q43, Q44, Q45, Q46, Q47, Q48, Q49, Q50, Q51, Q52, Q53, Q54, Q55, Q56, Q57, Q58, Q59, Q60, Q61, Q62, Q63, Q64, Q65, Q66, Q67, Q68, Q69, Q70, Q71, Q72, Q73, Q99, Q100, Q101, Q102, Q103, Q74, Q75, Q77, Q78, Q79, Q80, Q81, Q82, Q83, Q84, clr, List.length_nil, List.length_cons, List.getElem?_cons_zero, List.getElem?_cons_succ, Nat.reduceAdd, Nat.zero_add, Nat.add_zero, Nat.reduceLeDiff, Nat.reduceSub, ↓reduceIte, List.drop_succ_cons, List.drop_zero, List.take_succ_cons, List.take_zero, Bool.false_eq_true, List.nil_append, List.cons_append, Bool.not_true, Bool.not_false, cond_true, cond_false, bne, Q85, Q86, Q87, Q88, Q89, Q90, Q91, Q92, Q93, Q94, Q95, Q96, Q97, Q98, Q110, Q111, Q116, Q117, Q118, Q119, Q120, Q121, Q122, Q123, Option.map_some, Option.map_none]
end Go.AE.YtinhjhkmpknbbaaDoor
end

section
namespace Go.AE.YtinhjhkmpknbbaaDoor
open Go Go.AE Go.Proofs.YtinhjhkmpknbbaaDoor

def V61 (c : AV) (m n i : Int) (x3 x4 x8 x9 : AV) : List AV := [.junk, .v (.int .i64 m), .junk, x3, x4, c, .v (.int .i64 n), .v (.int .i64 i), x8, x9]
theorem left_ok : ∀ (N : Nat) (t : Tm) (a : AV) (m : Int), SizeOf.sizeOf t < N → IsT a t → callW F 39 [a, .v (.int .i64 m)] [] = some (.v (.int .i64 (fewT t m)), []) := by
 intro N
 induction N with
 | zero => intro t a m h; omega
 | succ N ih =>
  intro t a m hN ha
  cases ha with
  | mk k s n c l hc =>
  obtain ⟨es, hs, hes, hm⟩ := hc.sl
  have hll := hes.length
  refine callW_pure (c := c39) rfl rfl (l.length + 1) ?_
  have q1 := fun h : List AO => hs.len h
  obtain ⟨e, v', h', g1, g2, g3⟩ := loop_rule0 (call := callW F) (K := l.length + 1) (b := c39_9) (keep := [false, true, false, false, false, true, true, true, false, false])
   (fun i v h => ∃ m', v = V61 c m' es.length i .junk .junk .junk .junk ∧ fewL (l.drop i) m' = fewL l (IntKind.i64.wrap (m - 1)))
   (fun e v h => (e = .exit 0 ∧ ∃ x3 x4 x9, v = V61 c (fewL l (IntKind.i64.wrap (m - 1))) es.length es.length x3 x4 (.v (.bool false)) x9) ∨ (e = .ret ∧ getO v [] (.var 3) = .v (.int .i64 (fewL l (IntKind.i64.wrap (m - 1))))))
   l.length (m := l.length + 1) (v := [.agg [.v (.int .i64 k), .v (.string s), .v (.int .i64 n), c], .v (.int .i64 (IntKind.i64.wrap (m - 1))), .ptr 0 0, .v (.int .i64 0), .v undef, c, .v (.int .i64 es.length), .v (.int .i64 0), .v undef, .v undef]) (h := [.box 24 [.v (.int .i64 k), .v (.string s), .v (.int .i64 n), c]])
   (by omega) ⟨_, rfl, rfl⟩ (by
    rintro i v h hi ⟨m', rfl, hR⟩
    by_cases hil : i < es.length
    ·have hil' : i < l.length := by omega
     have hT := hes.at hil hil'
     have hlt := lt_t hil
     have he : es[i]? = some es[i] := List.getElem?_eq_getElem hil
     have q2 := fun h : List AO => hs.ia he h
     have hf := hT.facts
     have hd : l.drop i = l[i] :: l.drop (i + 1) := List.drop_eq_getElem_cons hil'
     have hw := wrap_succ hil hm
     rw [hd, fewL] at hR
     by_cases hneg : m' < 0
     ·have hn : decide (m' < 0) = true := by simpa using hneg
      rw [if_pos hneg] at hR
      refine ⟨.ret, [.junk, .v (.int .i64 m'), .junk, .v (.int .i64 m'), .ptr h.length 0, c, .v (.int .i64 es.length), .v (.int .i64 i), .v (.bool true), .v (.bool true)], h ++ [.box 24 es[i].cells], ?_, .inr ⟨rfl, by rw [← hR]; rfl⟩⟩
      simp only [V61, c39_9, c39_3, c39_4, c39_5, c39_6, hlt, q1, q2, hf, hn, q9z, Q0, Q1, Q2, Q3, Q4, Q5, Q6, Q7, Q8, Q9, Q10, Q11, Q12, Q13, Q14, Q15, Q16, Q17, Q18, Q19, Q20, Q21, Q22, Q23, Q24, Q25, Q26, Q27, Q28, Q29, Q30, Q31, Q32, Q33, Q35, Q36, Q37, Q38, Q39, Q40, Q41, Q42, Q43, Q44, Q45, Q46, Q47, Q48, Q49, Q50, Q51, Q52, Q53, Q54, Q55, Q56, Q57, Q58, Q59, Q60, Q61, Q62, Q63, Q64, Q65, Q66, Q67, Q68, Q69, Q70, Q71, Q72, Q73, Q99, Q100, Q101, Q102, Q103, Q74, Q75, Q77, Q78, Q79, Q80, Q81, Q82, Q83, Q84, clr, List.length_nil, List.length_cons, List.getElem?_cons_zero, List.getElem?_cons_succ, Nat.reduceAdd, Nat.zero_add, Nat.add_zero, Nat.reduceLeDiff, Nat.reduceSub, ↓reduceIte, List.drop_succ_cons, List.drop_zero, List.take_succ_cons, List.take_zero, Bool.false_eq_true, List.nil_append, List.cons_append, Bool.not_true, Bool.not_false, cond_true, cond_false, bne, Q85, Q86, Q87, Q88, Q89, Q90, Q91, Q92, Q93, Q94, Q95, Q96, Q97, Q98, Q110, Q111, Q116, Q117, Q118, Q119, Q120, Q121, Q122, Q123, Option.map_some, Option.map_none, Q34]
     ·have hn : decide (m' < 0) = false := by simpa using hneg
      have hc := ih l[i] es[i] m' (by have := IsL.mem_size (k := k) (n := n) (s := s) (List.getElem_mem hil'); omega) hT
      rw [if_neg hneg] at hR
      refine ⟨.normal, [.junk, .v (.int .i64 (fewT l[i] m')), .junk, .junk, .ptr h.length 0, c, .v (.int .i64 es.length), .v (.int .i64 ((i + 1 : Nat) : Int)), .v (.bool true), .v (.bool false)], h ++ [.box 24 es[i].cells], ?_, by omega, _, rfl, hR⟩
      simp only [V61, c39_9, c39_3, c39_4, c39_5, c39_7, c39_8, hlt, q1, q2, hf, hn, hc, hw, snap_int, q9z, Q0, Q1, Q2, Q3, Q4, Q5, Q6, Q7, Q8, Q9, Q10, Q11, Q12, Q13, Q14, Q15, Q16, Q17, Q18, Q19, Q20, Q21, Q22, Q23, Q24, Q25, Q26, Q27, Q28, Q29, Q30, Q31, Q32, Q33, Q35, Q36, Q37, Q38, Q39, Q40, Q41, Q42, Q43, Q44, Q45, Q46, Q47, Q48, Q49, Q50, Q51, Q52, Q53, Q54, Q55, Q56, Q57, Q58, Q59, Q60, Q61, Q62, Q63, Q64, Q65, Q66, Q67, Q68, Q69, Q70, Q71, Q72, Q73, Q99, Q100, Q101, Q102, Q103, Q74, Q75, Q77, Q78, Q79, Q80, Q81, Q82, Q83, Q84, clr, List.length_nil, List.length_cons, List.getElem?_cons_zero, List.getElem?_cons_succ, Nat.reduceAdd, Nat.zero_add, Nat.add_zero, Nat.reduceLeDiff, Nat.reduceSub, ↓reduceIte, List.drop_succ_cons, List.drop_zero, List.take_succ_cons, List.take_zero, Bool.false_eq_true, List.nil_append, List.cons_append, Bool.not_true, Bool.not_false, cond_true, cond_false, bne, Q85, Q86, Q87, Q88, Q89, Q90, Q91, Q92, Q93, Q94, Q95, Q96, Q97, Q98, Q110, Q111, Q116, Q117, Q118, Q119, Q120, Q121, Q122, Q123, Option.map_some, Option.map_none, Q34]
    ·have hie : i = es.length := by omega
     subst hie
     have hlt := lt_f (n := es.length)
     rw [List.drop_of_length_le (by omega), fewL] at hR
     refine ⟨.exit 0, V61 c m' es.length es.length .junk .junk (.v (.bool false)) .junk, h, ?_, .inl ⟨rfl, _, _, _, by rw [hR]⟩⟩
     simp only [V61, c39_9, c39_3, hlt, Q0, Q1, Q2, Q3, Q4, Q5, Q6, Q7, Q8, Q9, Q10, Q11, Q12, Q13, Q14, Q15, Q16, Q17, Q18, Q19, Q20, Q21, Q22, Q23, Q24, Q25, Q26, Q27, Q28, Q29, Q30, Q31, Q32, Q33, Q35, Q36, Q37, Q38, Q39, Q40, Q41, Q42, Q43, Q44, Q45, Q46, Q47, Q48, Q49, Q50, Q51, Q52, Q53, Q54, Q55, Q56, Q57, Q58, Q59, Q60, Q61, Q62, Q63, Q64, Q65, Q66, Q67, Q68, Q69, Q70, Q71, Q72, Q73, Q99, Q100, Q101, Q102, Q103, Q74, Q75, Q77, Q78, Q79, Q80, Q81, Q82, Q83, Q84, clr, List.length_nil, List.length_cons, List.getElem?_cons_zero, List.getElem?_cons_succ, Nat.reduceAdd, Nat.zero_add, Nat.add_zero, Nat.reduceLeDiff, Nat.reduceSub, ↓reduceIte, List.drop_succ_cons, List.drop_zero, List.take_succ_cons, List.take_zero, Bool.false_eq_true, List.nil_append, List.cons_append, Bool.not_true, Bool.not_false, cond_true, cond_false, bne, Q85, Q86, Q87, Q88, Q89, Q90, Q91, Q92, Q93, Q94, Q95, Q96, Q97, Q98, Q110, Q111, Q116, Q117, Q118, Q119, Q120, Q121, Q122, Q123, Option.map_some, Option.map_none, Q34])
  have e5 : Q76 [.box 24 [.v (.int .i64 k), .v (.string s), .v (.int .i64 n), c]] false 1 (.ptr 0 3) = some c := rfl
  rw [fewT]
  rw [show c39.body = (.seq (.region [] [] c39_0) (.seq (.region [] [] c39_1) (.seq (.seq (.region [] [] c39_2) (.block 0 (.loop [false, true, false, false, false, true, true, true, false, false] [] c39_9))) (.seq (.region [] [] c39_10) .ret)))) from rfl, show c39.res = [.var 3] from rfl]
  rw [show start c39 [.agg [.v (.int .i64 k), .v (.string s), .v (.int .i64 n), c], .v (.int .i64 m)] = [.agg [.v (.int .i64 k), .v (.string s), .v (.int .i64 n), c], .v (.int .i64 m), .v undef, .v undef, .v undef, .v undef, .v undef, .v undef, .v undef, .v undef] from rfl]
  rcases g3 with ⟨rfl, x3, x4, x9, rfl⟩ | ⟨rfl, hg⟩
  ·generalize c39_9 = bb at g1 ⊢
   simp only [V61, c39_0, c39_1, c39_2, c39_10, e5, q1, g1, Q0, Q1, Q2, Q3, Q4, Q5, Q6, Q7, Q8, Q9, Q10, Q11, Q12, Q13, Q14, Q15, Q16, Q17, Q18, Q19, Q20, Q21, Q22, Q23, Q24, Q25, Q26, Q27, Q28, Q29, Q30, Q31, Q32, Q33, Q35, Q36, Q37, Q38, Q39, Q40, Q41, Q42, Q43, Q44, Q45, Q46, Q47, Q48, Q49, Q50, Q51, Q52, Q53, Q54, Q55, Q56, Q57, Q58, Q59, Q60, Q61, Q62, Q63, Q64, Q65, Q66, Q67, Q68, Q69, Q70, Q71, Q72, Q73, Q99, Q100, Q101, Q102, Q103, Q74, Q75, Q77, Q78, Q79, Q80, Q81, Q82, Q83, Q84, clr, List.length_nil, List.length_cons, List.getElem?_cons_zero, List.getElem?_cons_succ, Nat.reduceAdd, Nat.zero_add, Nat.add_zero, Nat.reduceLeDiff, Nat.reduceSub, ↓reduceIte, List.drop_succ_cons, List.drop_zero, List.take_succ_cons, List.take_zero, Bool.false_eq_true, List.nil_append, List.cons_append, Bool.not_true, Bool.not_false, cond_true, cond_false, bne, Q85, Q86, Q87, Q88, Q89, Q90, Q91, Q92, Q93, Q94, Q95, Q96, Q97, Q98, Q110, Q111, Q116, Q117, Q118, Q119, Q120, Q121, Q122, Q123, Option.map_some, Option.map_none, Q34]
  ·generalize c39_9 = bb at g1 ⊢
   simp only [V61, c39_0, c39_1, c39_2, c39_10, e5, q1, g1, hg, Q0, Q1, Q2, Q3, Q4, Q5, Q6, Q7, Q8, Q9, Q10, Q11, Q12, Q13, Q14, Q15, Q16, Q17, Q18, Q19, Q20, Q21, Q22, Q23, Q24, Q25, Q26, Q27, Q28, Q29, Q30, Q31, Q32, Q33, Q35, Q36, Q37, Q38, Q39, Q40, Q41, Q42, Q43, Q44, Q45, Q46, Q47, Q48, Q49, Q50, Q51, Q52, Q53, Q54, Q55, Q56, Q57, Q58, Q59, Q60, Q61, Q62, Q63, Q64, Q65, Q66, Q67, Q68, Q69, Q70, Q71, Q72, Q73, Q99, Q100, Q101, Q102, Q103, Q74, Q75, Q77, Q78, Q79, Q80, Q81, Q82, Q83, Q84, clr, List.length_nil, List.length_cons, List.getElem?_cons_zero, List.getElem?_cons_succ, Nat.reduceAdd, Nat.zero_add, Nat.add_zero, Nat.reduceLeDiff, Nat.reduceSub, ↓reduceIte, List.drop_succ_cons, List.drop_zero, List.take_succ_cons, List.take_zero, Bool.false_eq_true, List.nil_append, List.cons_append, Bool.not_true, Bool.not_false, cond_true, cond_false, bne, Q85, Q86, Q87, Q88, Q89, Q90, Q91, Q92, Q93, Q94, Q95, Q96, Q97, Q98, Q110, Q111, Q116, Q117, Q118, Q119, Q120, Q121, Q122, Q123, Option.map_some, Option.map_none, Q34]
theorem few_ok (t : Tm) (a : AV) (m : Int) (ha : IsT a t) : callW F 11 [a, .v (.int .i64 m)] [] = some (.v (.bool (decide (fewT t m ≥ 0))), []) := by
 refine callW_pure (c := c11) rfl rfl 0 ?_
 have hf := ha.facts
 have hc := left_ok _ t a m (Nat.lt_succ_self _) ha
 have e1 : Q76 [.box 24 a.cells] true 4 (.ptr 0 0) = some a := hf.2.2.2.1 [] 24
 simp only [c11, start, List.replicate, c11_0, c11_1, hf, e1, snap_int, hc, Q0, Q1, Q2, Q3, Q4, Q5, Q6, Q7, Q8, Q9, Q10, Q11, Q12, Q13, Q14, Q15, Q16, Q17, Q18, Q19, Q20, Q21, Q22, Q23, Q24, Q25, Q26, Q27, Q28, Q29, Q30, Q31, Q32, Q33, Q35, Q36, Q37, Q38, Q39, Q40, Q41, Q42, Q43, Q44, Q45, Q46, Q47, Q48, Q49, Q50, Q51, Q52, Q53, Q54, Q55, Q56, Q57, Q58, Q59, Q60, Q61, Q62, Q63, Q64, Q65, Q66, Q67, Q68, Q69, Q70, Q71, Q72, Q73, Q99, Q100, Q101, Q102, Q103, Q74, Q75, Q77, Q78, Q79, Q80, Q81, Q82, Q83, Q84, clr, List.length_nil, List.length_cons, List.getElem?_cons_zero, List.getElem?_cons_succ, Nat.reduceAdd, Nat.zero_add, Nat.add_zero, Nat.reduceLeDiff, Nat.reduceSub, ↓reduceIte, List.drop_succ_cons, List.drop_zero, List.take_succ_cons, List.take_zero, Bool.false_eq_true, List.nil_append, List.cons_append, Bool.not_true, Bool.not_false, cond_true, cond_false, bne, Q85, Q86, Q87, Q88, Q89, Q90, Q91, Q92, Q93, Q94, Q95, Q96, Q97, Q98, Q110, Q111, Q116, Q117, Q118, Q119, Q120, Q121, Q122, Q123, Option.map_some, Option.map_none, Q34]
end Go.AE.YtinhjhkmpknbbaaDoor
end

section
namespace Go.AE.YtinhjhkmpknbbaaDoor
open Go Go.AE Go.Proofs.YtinhjhkmpknbbaaDoor

mutual
def depI : Tm → Int
 | .mk _ _ _ l => IntKind.i64.wrap (depL l 0 + 1)
def depL : List Tm → Int → Int
 | [], m => m
 | a :: l, m => depL l (max m (depI a))
end
def Vfold (c : AV) (m n i : Int) (x4 x8 : AV) : List AV := [.junk, .junk, .junk, .v (.int .i64 m), x4, c, .v (.int .i64 n), .v (.int .i64 i), x8]
theorem rdeep_ok : ∀ (N : Nat) (t : Tm) (a : AV), SizeOf.sizeOf t < N → IsT a t → callW F 41 [a] [] = some (.v (.int .i64 (depI t)), []) := by
 intro N
 induction N with
 | zero => intro t a h; omega
 | succ N ih =>
  intro t a hN ha
  cases ha with
  | mk k s n c l hc =>
  obtain ⟨es, hs, hes, hm⟩ := hc.sl
  have hll := hes.length
  refine callW_pure (c := c41) rfl rfl (l.length + 1) ?_
  have q1 := fun h : List AO => hs.len h
  obtain ⟨e, v', h', g1, g2, g3⟩ := loop_rule0 (call := callW F) (K := l.length + 1) (b := c41_7) (keep := [false, false, false, true, false, true, true, true, false])
   (fun i v h => ∃ m', v = Vfold c m' es.length i .junk .junk ∧ depL (l.drop i) m' = depL l 0)
   (fun e v h => e = .exit 0 ∧ ∃ x4, v = Vfold c (depL l 0) es.length es.length x4 (.v (.bool false)))
   l.length (m := l.length + 1) (v := [.agg [.v (.int .i64 k), .v (.string s), .v (.int .i64 n), c], .ptr 0 0, .v (.int .i64 0), .v (.int .i64 0), .v undef, c, .v (.int .i64 es.length), .v (.int .i64 0), .v undef]) (h := [.box 24 [.v (.int .i64 k), .v (.string s), .v (.int .i64 n), c]])
   (by omega) ⟨_, rfl, rfl⟩ (by
    rintro i v h hi ⟨m', rfl, hR⟩
    by_cases hil : i < es.length
    ·have hil' : i < l.length := by omega
     have hT := hes.at hil hil'
     have hlt := lt_t hil
     have he : es[i]? = some es[i] := List.getElem?_eq_getElem hil
     have q2 := fun h : List AO => hs.ia he h
     have hf := hT.facts
     have hd : l.drop i = l[i] :: l.drop (i + 1) := List.drop_eq_getElem_cons hil'
     have hw := wrap_succ hil hm
     rw [hd, depL] at hR
     have hc := ih l[i] es[i] (by have := IsL.mem_size (k := k) (n := n) (s := s) (List.getElem_mem hil'); omega) hT
     refine ⟨.normal, [.junk, .junk, .junk, .v (.int .i64 (max m' (depI l[i]))), .ptr h.length 0, c, .v (.int .i64 es.length), .v (.int .i64 ((i + 1 : Nat) : Int)), .v (.bool true)], h ++ [.box 24 es[i].cells], ?_, by omega, _, rfl, hR⟩
     simp only [Vfold, c41_7, c41_3, c41_4, c41_5, c41_6, hlt, q1, q2, hf, hc, hw, q9z, Q96, Q97, Q0, Q1, Q2, Q3, Q4, Q5, Q6, Q7, Q8, Q9, Q10, Q11, Q12, Q13, Q14, Q15, Q16, Q17, Q18, Q19, Q20, Q21, Q22, Q23, Q24, Q25, Q26, Q27, Q28, Q29, Q30, Q31, Q32, Q33, Q35, Q36, Q37, Q38, Q39, Q40, Q41, Q42, Q43, Q44, Q45, Q46, Q47, Q48, Q49, Q50, Q51, Q52, Q53, Q54, Q55, Q56, Q57, Q58, Q59, Q60, Q61, Q62, Q63, Q64, Q65, Q66, Q67, Q68, Q69, Q70, Q71, Q72, Q73, Q99, Q100, Q101, Q102, Q103, Q74, Q75, Q77, Q78, Q79, Q80, Q81, Q82, Q83, Q84, clr, List.length_nil, List.length_cons, List.getElem?_cons_zero, List.getElem?_cons_succ, Nat.reduceAdd, Nat.zero_add, Nat.add_zero, Nat.reduceLeDiff, Nat.reduceSub, ↓reduceIte, List.drop_succ_cons, List.drop_zero, List.take_succ_cons, List.take_zero, Bool.false_eq_true, List.nil_append, List.cons_append, Bool.not_true, Bool.not_false, cond_true, cond_false, bne, Q85, Q86, Q87, Q88, Q89, Q90, Q91, Q92, Q93, Q94, Q95, Q96, Q97, Q98, Q110, Q111, Q116, Q117, Q118, Q119, Q120, Q121, Q122, Q123, Option.map_some, Option.map_none, Q34]
    ·have hie : i = es.length := by omega
     subst hie
     have hlt := lt_f (n := es.length)
     rw [List.drop_of_length_le (by omega), depL] at hR
     refine ⟨.exit 0, Vfold c m' es.length es.length .junk (.v (.bool false)), h, ?_, rfl, _, by rw [hR]⟩
     simp only [Vfold, c41_7, c41_3, hlt, Q0, Q1, Q2, Q3, Q4, Q5, Q6, Q7, Q8, Q9, Q10, Q11, Q12, Q13, Q14, Q15, Q16, Q17, Q18, Q19, Q20, Q21, Q22, Q23, Q24, Q25, Q26, Q27, Q28, Q29, Q30, Q31, Q32, Q33, Q35, Q36, Q37, Q38, Q39, Q40, Q41, Q42, Q43, Q44, Q45, Q46, Q47, Q48, Q49, Q50, Q51, Q52, Q53, Q54, Q55, Q56, Q57, Q58, Q59, Q60, Q61, Q62, Q63, Q64, Q65, Q66, Q67, Q68, Q69, Q70, Q71, Q72, Q73, Q99, Q100, Q101, Q102, Q103, Q74, Q75, Q77, Q78, Q79, Q80, Q81, Q82, Q83, Q84, clr, List.length_nil, List.length_cons, List.getElem?_cons_zero, List.getElem?_cons_succ, Nat.reduceAdd, Nat.zero_add, Nat.add_zero, Nat.reduceLeDiff, Nat.reduceSub, ↓reduceIte, List.drop_succ_cons, List.drop_zero, List.take_succ_cons, List.take_zero, Bool.false_eq_true, List.nil_append, List.cons_append, Bool.not_true, Bool.not_false, cond_true, cond_false, bne, Q85, Q86, Q87, Q88, Q89, Q90, Q91, Q92, Q93, Q94, Q95, Q96, Q97, Q98, Q110, Q111, Q116, Q117, Q118, Q119, Q120, Q121, Q122, Q123, Option.map_some, Option.map_none, Q34])
  have e5 : Q76 [.box 24 [.v (.int .i64 k), .v (.string s), .v (.int .i64 n), c]] false 1 (.ptr 0 3) = some c := rfl
  rw [depI]
  rw [show c41.body = (.seq (.region [] [] c41_0) (.seq (.region [] [] c41_1) (.seq (.seq (.region [] [] c41_2) (.block 0 (.loop [false, false, false, true, false, true, true, true, false] [] c41_7))) (.seq (.region [] [] c41_8) .ret)))) from rfl, show c41.res = [.var 2] from rfl]
  rw [show start c41 [.agg [.v (.int .i64 k), .v (.string s), .v (.int .i64 n), c]] = [.agg [.v (.int .i64 k), .v (.string s), .v (.int .i64 n), c], .v undef, .v undef, .v undef, .v undef, .v undef, .v undef, .v undef, .v undef] from rfl]
  obtain ⟨rfl, x4, rfl⟩ := g3
  generalize c41_7 = bb at g1 ⊢
  simp only [Vfold, c41_0, c41_1, c41_2, c41_8, e5, q1, g1, Q0, Q1, Q2, Q3, Q4, Q5, Q6, Q7, Q8, Q9, Q10, Q11, Q12, Q13, Q14, Q15, Q16, Q17, Q18, Q19, Q20, Q21, Q22, Q23, Q24, Q25, Q26, Q27, Q28, Q29, Q30, Q31, Q32, Q33, Q35, Q36, Q37, Q38, Q39, Q40, Q41, Q42, Q43, Q44, Q45, Q46, Q47, Q48, Q49, Q50, Q51, Q52, Q53, Q54, Q55, Q56, Q57, Q58, Q59, Q60, Q61, Q62, Q63, Q64, Q65, Q66, Q67, Q68, Q69, Q70, Q71, Q72, Q73, Q99, Q100, Q101, Q102, Q103, Q74, Q75, Q77, Q78, Q79, Q80, Q81, Q82, Q83, Q84, clr, List.length_nil, List.length_cons, List.getElem?_cons_zero, List.getElem?_cons_succ, Nat.reduceAdd, Nat.zero_add, Nat.add_zero, Nat.reduceLeDiff, Nat.reduceSub, ↓reduceIte, List.drop_succ_cons, List.drop_zero, List.take_succ_cons, List.take_zero, Bool.false_eq_true, List.nil_append, List.cons_append, Bool.not_true, Bool.not_false, cond_true, cond_false, bne, Q85, Q86, Q87, Q88, Q89, Q90, Q91, Q92, Q93, Q94, Q95, Q96, Q97, Q98, Q110, Q111, Q116, Q117, Q118, Q119, Q120, Q121, Q122, Q123, Option.map_some, Option.map_none, Q34]
end Go.AE.YtinhjhkmpknbbaaDoor
end

section
namespace Go.AE.YtinhjhkmpknbbaaDoor
open Go Go.AE Go.Proofs.YtinhjhkmpknbbaaDoor

def chkS (s : ByteArray) : Bool := decide ((s.size : Int) ≤ 255) && Lib.validD s.data.toList
def noS (s : ByteArray) : Bool := s.toList == (⟨#[]⟩ : ByteArray).toList
mutual
def mayT : Tm → Bool
 | .mk k s n l =>
  if (k == 1) = true then ((l.length : Int) == 0) && (noS s && decide (n ≥ 0))
  else if (k == 2) = true then ((l.length : Int) == 0) && ((n == 0) && chkS s)
  else if (k == 3) = true then ((l.length : Int) == 0) && noS s
  else if (k == 4) = true then !((l.length : Int) == 0) && ((n == 0) && (decide ((l.length : Int) ≤ 16) && (chkS s && mayL l)))
  else false
def mayL : List Tm → Bool
 | [] => true
 | a :: l => mayT a && mayL l
end
theorem valid_call (s : ByteArray) (h : s.size ≤ 9223372036854775807) : callW F 101 [.v (.string s)] [] = some (.v (.bool (Lib.validD s.data.toList)), []) := by
 refine callW_oracle (g := validG) rfl ?_
 simp only [validG, h, if_true]
theorem rchk_ok (s : ByteArray) : callW F 70 [.v (.string s)] [] = some (.v (.bool (chkS s)), []) := by
 refine callW_pure (c := c70) rfl rfl 0 ?_
 unfold chkS
 cases h1 : decide ((s.size : Int) ≤ 255) with
 | true =>
  have hc := valid_call s (by simp at h1; omega)
  simp only [c70, start, List.replicate, c70_0, c70_1, h1, hc, snap_str, Bool.true_and, Q0, Q1, Q2, Q3, Q4, Q5, Q6, Q7, Q8, Q9, Q10, Q11, Q12, Q13, Q14, Q15, Q16, Q17, Q18, Q19, Q20, Q21, Q22, Q23, Q24, Q25, Q26, Q27, Q28, Q29, Q30, Q31, Q32, Q33, Q35, Q36, Q37, Q38, Q39, Q40, Q41, Q42, Q43, Q44, Q45, Q46, Q47, Q48, Q49, Q50, Q51, Q52, Q53, Q54, Q55, Q56, Q57, Q58, Q59, Q60, Q61, Q62, Q63, Q64, Q65, Q66, Q67, Q68, Q69, Q70, Q71, Q72, Q73, Q99, Q100, Q101, Q102, Q103, Q74, Q75, Q77, Q78, Q79, Q80, Q81, Q82, Q83, Q84, clr, List.length_nil, List.length_cons, List.getElem?_cons_zero, List.getElem?_cons_succ, Nat.reduceAdd, Nat.zero_add, Nat.add_zero, Nat.reduceLeDiff, Nat.reduceSub, ↓reduceIte, List.drop_succ_cons, List.drop_zero, List.take_succ_cons, List.take_zero, Bool.false_eq_true, List.nil_append, List.cons_append, Bool.not_true, Bool.not_false, cond_true, cond_false, bne, Q85, Q86, Q87, Q88, Q89, Q90, Q91, Q92, Q93, Q94, Q95, Q96, Q97, Q98, Q110, Q111, Q116, Q117, Q118, Q119, Q120, Q121, Q122, Q123, Option.map_some, Option.map_none, Q34]
 | false => simp only [c70, start, List.replicate, c70_0, c70_1, h1, Bool.false_and, Q0, Q1, Q2, Q3, Q4, Q5, Q6, Q7, Q8, Q9, Q10, Q11, Q12, Q13, Q14, Q15, Q16, Q17, Q18, Q19, Q20, Q21, Q22, Q23, Q24, Q25, Q26, Q27, Q28, Q29, Q30, Q31, Q32, Q33, Q35, Q36, Q37, Q38, Q39, Q40, Q41, Q42, Q43, Q44, Q45, Q46, Q47, Q48, Q49, Q50, Q51, Q52, Q53, Q54, Q55, Q56, Q57, Q58, Q59, Q60, Q61, Q62, Q63, Q64, Q65, Q66, Q67, Q68, Q69, Q70, Q71, Q72, Q73, Q99, Q100, Q101, Q102, Q103, Q74, Q75, Q77, Q78, Q79, Q80, Q81, Q82, Q83, Q84, clr, List.length_nil, List.length_cons, List.getElem?_cons_zero, List.getElem?_cons_succ, Nat.reduceAdd, Nat.zero_add, Nat.add_zero, Nat.reduceLeDiff, Nat.reduceSub, ↓reduceIte, List.drop_succ_cons, List.drop_zero, List.take_succ_cons, List.take_zero, Bool.false_eq_true, List.nil_append, List.cons_append, Bool.not_true, Bool.not_false, cond_true, cond_false, bne, Q85, Q86, Q87, Q88, Q89, Q90, Q91, Q92, Q93, Q94, Q95, Q96, Q97, Q98, Q110, Q111, Q116, Q117, Q118, Q119, Q120, Q121, Q122, Q123, Option.map_some, Option.map_none, Q34]

def tb (k n : Int) (s : ByteArray) (c : AV) : AO := .box 24 [.v (.int .i64 k), .v (.string s), .v (.int .i64 n), c]
section
variable {k n : Int} {s : ByteArray} {c : AV} {G : List AO}
theorem tb0 : Q76 (tb k n s c :: G) false 1 (.ptr 0 0) = some (.v (.int .i64 k)) := rfl
theorem tb1 : Q76 (tb k n s c :: G) false 1 (.ptr 0 1) = some (.v (.string s)) := rfl
theorem tb2 : Q76 (tb k n s c :: G) false 1 (.ptr 0 2) = some (.v (.int .i64 n)) := rfl
theorem tb3 : Q76 (tb k n s c :: G) false 1 (.ptr 0 3) = some c := rfl
theorem tbx : bx [] 24 (some [.v (.int .i64 k), .v (.string s), .v (.int .i64 n), c]) = some (.ptr 0 0, [tb k n s c]) := rfl
end

end Go.AE.YtinhjhkmpknbbaaDoor
end

section
namespace Go.AE.YtinhjhkmpknbbaaDoor
open Go Go.AE Go.Proofs.YtinhjhkmpknbbaaDoor

def V43 (c : AV) (n i : Int) (x3 x13 x14 : AV) : List AV := [.junk, .junk, .junk, x3, .junk, .junk, .junk, .junk, .junk, .junk, c, .v (.int .i64 n), .v (.int .i64 i), x13, x14]
def K43 : List Bool := [false, false, false, false, false, false, false, false, false, false, true, true, true, false, false]
theorem rmay_ok : ∀ (N : Nat) (t : Tm) (a : AV), SizeOf.sizeOf t < N → IsT a t → callW F 40 [a] [] = some (.v (.bool (mayT t)), []) := by
 intro N
 induction N with
 | zero => intro t a h; omega
 | succ N ih =>
  intro t a hN ha
  cases ha with
  | mk k s n c l hc =>
  obtain ⟨es, hs, hes, hm⟩ := hc.sl
  have hll := hes.length
  refine callW_pure (c := c40) rfl rfl (l.length + 1) ?_
  have q1 := fun h : List AO => hs.len h
  rw [hll] at q1
  have hchk := rchk_ok s
  have loop : ∀ (v : List AV), clr K43 v = V43 c l.length 0 .junk .junk .junk → (mayL l = true ∧ ∃ x3 x14 h, loopN (exec (callW F) (l.length + 1) c40_17) K43 (l.length + 1) v [tb k n s c] = some (.exit 1, V43 c l.length l.length x3 (.v (.bool false)) x14, h)) ∨
    (mayL l = false ∧ ∃ v' h, loopN (exec (callW F) (l.length + 1) c40_17) K43 (l.length + 1) v [tb k n s c] = some (.ret, v', h) ∧ getO v' [] (.var 2) = .v (.bool false)) := by
   intro v hv
   obtain ⟨e, v', h', g1, g2, g3⟩ := loop_rule0 (call := callW F) (K := l.length + 1) (b := c40_17) (keep := K43)
    (fun i v h => v = V43 c l.length i .junk .junk .junk ∧ mayL (l.drop i) = mayL l)
    (fun e v h => (e = .exit 1 ∧ mayL l = true ∧ ∃ x3 x14, v = V43 c l.length l.length x3 (.v (.bool false)) x14) ∨ (e = .ret ∧ mayL l = false ∧ getO v [] (.var 2) = .v (.bool false)))
    l.length (m := l.length + 1) (v := v) (h := [tb k n s c]) (by omega) ⟨hv, rfl⟩ (by
     rintro i v h hi ⟨rfl, hR⟩
     by_cases hil' : i < l.length
     ·have hil : i < es.length := by omega
      have hT := hes.at hil hil'
      have hlt := lt_t hil'
      have he : es[i]? = some es[i] := List.getElem?_eq_getElem hil
      have q2 := fun h : List AO => hs.ia he h
      have hf := hT.facts
      have hd : l.drop i = l[i] :: l.drop (i + 1) := List.drop_eq_getElem_cons hil'
      have hw := wrap_succ hil hm
      have hc := ih l[i] es[i] (by have := IsL.mem_size (k := k) (n := n) (s := s) (List.getElem_mem hil'); omega) hT
      rw [hd, mayL] at hR
      cases hb : mayT l[i] with
      | true =>
       rw [hb] at hc hR
       rw [Bool.true_and] at hR
       refine ⟨.normal, V43 c l.length ((i + 1 : Nat) : Int) (.ptr h.length 0) (.v (.bool true)) (.v (.bool false)), h ++ [.box 24 es[i].cells], ?_, hil', rfl, hR⟩
       simp only [V43, c40_17, c40_12, c40_13, c40_14, c40_16, hlt, q2, hf, hc, hw, q9z, Q0, Q1, Q2, Q3, Q4, Q5, Q6, Q7, Q8, Q9, Q10, Q11, Q12, Q13, Q14, Q15, Q16, Q17, Q18, Q19, Q20, Q21, Q22, Q23, Q24, Q25, Q26, Q27, Q28, Q29, Q30, Q31, Q32, Q33, Q35, Q36, Q37, Q38, Q39, Q40, Q41, Q42, Q43, Q44, Q45, Q46, Q47, Q48, Q49, Q50, Q51, Q52, Q53, Q54, Q55, Q56, Q57, Q58, Q59, Q60, Q61, Q62, Q63, Q64, Q65, Q66, Q67, Q68, Q69, Q70, Q71, Q72, Q73, Q99, Q100, Q101, Q102, Q103, Q74, Q75, Q77, Q78, Q79, Q80, Q81, Q82, Q83, Q84, clr, List.length_nil, List.length_cons, List.getElem?_cons_zero, List.getElem?_cons_succ, Nat.reduceAdd, Nat.zero_add, Nat.add_zero, Nat.reduceLeDiff, Nat.reduceSub, ↓reduceIte, List.drop_succ_cons, List.drop_zero, List.take_succ_cons, List.take_zero, Bool.false_eq_true, List.nil_append, List.cons_append, Bool.not_true, Bool.not_false, cond_true, cond_false, bne, Q85, Q86, Q87, Q88, Q89, Q90, Q91, Q92, Q93, Q94, Q95, Q96, Q97, Q98, Q110, Q111, Q116, Q117, Q118, Q119, Q120, Q121, Q122, Q123, Option.map_some, Option.map_none, Q34]
      | false =>
       rw [hb] at hc hR
       rw [Bool.false_and] at hR
       refine ⟨.ret, [.junk, .junk, .v (.bool false), .ptr h.length 0, .junk, .junk, .junk, .junk, .junk, .junk, c, .v (.int .i64 l.length), .v (.int .i64 i), .v (.bool true), .v (.bool true)], h ++ [.box 24 es[i].cells], ?_, .inr ⟨rfl, hR.symm, rfl⟩⟩
       simp only [V43, c40_17, c40_12, c40_13, c40_14, c40_15, hlt, q2, hf, hc, hw, q9z, Q0, Q1, Q2, Q3, Q4, Q5, Q6, Q7, Q8, Q9, Q10, Q11, Q12, Q13, Q14, Q15, Q16, Q17, Q18, Q19, Q20, Q21, Q22, Q23, Q24, Q25, Q26, Q27, Q28, Q29, Q30, Q31, Q32, Q33, Q35, Q36, Q37, Q38, Q39, Q40, Q41, Q42, Q43, Q44, Q45, Q46, Q47, Q48, Q49, Q50, Q51, Q52, Q53, Q54, Q55, Q56, Q57, Q58, Q59, Q60, Q61, Q62, Q63, Q64, Q65, Q66, Q67, Q68, Q69, Q70, Q71, Q72, Q73, Q99, Q100, Q101, Q102, Q103, Q74, Q75, Q77, Q78, Q79, Q80, Q81, Q82, Q83, Q84, clr, List.length_nil, List.length_cons, List.getElem?_cons_zero, List.getElem?_cons_succ, Nat.reduceAdd, Nat.zero_add, Nat.add_zero, Nat.reduceLeDiff, Nat.reduceSub, ↓reduceIte, List.drop_succ_cons, List.drop_zero, List.take_succ_cons, List.take_zero, Bool.false_eq_true, List.nil_append, List.cons_append, Bool.not_true, Bool.not_false, cond_true, cond_false, bne, Q85, Q86, Q87, Q88, Q89, Q90, Q91, Q92, Q93, Q94, Q95, Q96, Q97, Q98, Q110, Q111, Q116, Q117, Q118, Q119, Q120, Q121, Q122, Q123, Option.map_some, Option.map_none, Q34]
     ·have hie : i = l.length := by omega
      subst hie
      have hlt := lt_f (n := l.length)
      rw [List.drop_of_length_le (Nat.le_refl _), mayL] at hR
      refine ⟨.exit 1, V43 c l.length l.length .junk (.v (.bool false)) .junk, h, ?_, .inl ⟨rfl, hR.symm, _, _, rfl⟩⟩
      simp only [V43, c40_17, c40_12, hlt, Q0, Q1, Q2, Q3, Q4, Q5, Q6, Q7, Q8, Q9, Q10, Q11, Q12, Q13, Q14, Q15, Q16, Q17, Q18, Q19, Q20, Q21, Q22, Q23, Q24, Q25, Q26, Q27, Q28, Q29, Q30, Q31, Q32, Q33, Q35, Q36, Q37, Q38, Q39, Q40, Q41, Q42, Q43, Q44, Q45, Q46, Q47, Q48, Q49, Q50, Q51, Q52, Q53, Q54, Q55, Q56, Q57, Q58, Q59, Q60, Q61, Q62, Q63, Q64, Q65, Q66, Q67, Q68, Q69, Q70, Q71, Q72, Q73, Q99, Q100, Q101, Q102, Q103, Q74, Q75, Q77, Q78, Q79, Q80, Q81, Q82, Q83, Q84, clr, List.length_nil, List.length_cons, List.getElem?_cons_zero, List.getElem?_cons_succ, Nat.reduceAdd, Nat.zero_add, Nat.add_zero, Nat.reduceLeDiff, Nat.reduceSub, ↓reduceIte, List.drop_succ_cons, List.drop_zero, List.take_succ_cons, List.take_zero, Bool.false_eq_true, List.nil_append, List.cons_append, Bool.not_true, Bool.not_false, cond_true, cond_false, bne, Q85, Q86, Q87, Q88, Q89, Q90, Q91, Q92, Q93, Q94, Q95, Q96, Q97, Q98, Q110, Q111, Q116, Q117, Q118, Q119, Q120, Q121, Q122, Q123, Option.map_some, Option.map_none, Q34])
   rcases g3 with ⟨rfl, h1, x3, x14, rfl⟩ | ⟨rfl, h1, h2⟩
   ·exact .inl ⟨h1, x3, x14, h', g1⟩
   ·exact .inr ⟨h1, v', h', g1, h2⟩
  rw [mayT]
  rw [show c40.body = (.seq (.region [] [] c40_0) (.seq (.seq (.region [] [] c40_1) (.block 0 (.seq (.region [] [] c40_2) (.cond (.var 5) (.seq (.region [] [] c40_3) .ret) (.seq (.region [] [] c40_4) (.cond (.var 6) (.seq (.region [] [] c40_5) .ret) (.seq (.region [] [] c40_6) (.cond (.var 7) (.seq (.region [] [] c40_7) .ret) (.seq (.region [] [] c40_8) (.cond (.var 8) (.seq (.seq (.region [] [] c40_9) (.cond (.var 9) (.seq (.region [] [] c40_10) .ret) .skip)) (.seq (.seq (.region [] [] c40_11) (.block 1 (.loop K43 [] c40_17))) (.seq (.region [] [] c40_18) .ret))) .skip)))))))))) (.seq (.region [] [] c40_19) .ret))) from rfl, show c40.res = [.var 2] from rfl]
  rw [show start c40 [.agg [.v (.int .i64 k), .v (.string s), .v (.int .i64 n), c]] = [.agg [.v (.int .i64 k), .v (.string s), .v (.int .i64 n), c], .v undef, .v undef, .v undef, .v undef, .v undef, .v undef, .v undef, .v undef, .v undef, .v undef, .v undef, .v undef, .v undef, .v undef] from rfl]
  generalize c40_17 = bb at loop ⊢
  have hA2 : decide ((l.length : Int) < 1) = ((l.length : Int) == 0) := by
   by_cases e : l.length = 0
   ·rw [e]; rfl
   ·rw [decide_eq_false (by omega)]; symm; simp only [beq_eq_false_iff_ne]; omega
  have hE2 : decide ((l.length : Int) > 16) = !decide ((l.length : Int) ≤ 16) := by
   by_cases e : (l.length : Int) ≤ 16
   ·rw [decide_eq_true e, decide_eq_false (by omega)]; rfl
   ·rw [decide_eq_false e, decide_eq_true (by omega)]; rfl
  generalize hA : ((l.length : Int) == 0) = A at hA2 ⊢
  generalize hB : noS s = B
  unfold noS at hB
  generalize hC : decide (n ≥ 0) = C
  generalize hD : (n == 0) = D
  generalize hE : decide ((l.length : Int) ≤ 16) = E at hE2 ⊢
  generalize chkS s = G at hchk ⊢
  cases h1 : (k == 1) with
  | true => cases A <;> cases B <;> cases C <;> simp only [c40_0, c40_1, c40_2, c40_3, tbx, tb0, tb1, tb2, tb3, q1, h1, hA, hB, hC, Bool.true_and, Bool.false_and, Bool.and_self, Q0, Q1, Q2, Q3, Q4, Q5, Q6, Q7, Q8, Q9, Q10, Q11, Q12, Q13, Q14, Q15, Q16, Q17, Q18, Q19, Q20, Q21, Q22, Q23, Q24, Q25, Q26, Q27, Q28, Q29, Q30, Q31, Q32, Q33, Q35, Q36, Q37, Q38, Q39, Q40, Q41, Q42, Q43, Q44, Q45, Q46, Q47, Q48, Q49, Q50, Q51, Q52, Q53, Q54, Q55, Q56, Q57, Q58, Q59, Q60, Q61, Q62, Q63, Q64, Q65, Q66, Q67, Q68, Q69, Q70, Q71, Q72, Q73, Q99, Q100, Q101, Q102, Q103, Q74, Q75, Q77, Q78, Q79, Q80, Q81, Q82, Q83, Q84, clr, List.length_nil, List.length_cons, List.getElem?_cons_zero, List.getElem?_cons_succ, Nat.reduceAdd, Nat.zero_add, Nat.add_zero, Nat.reduceLeDiff, Nat.reduceSub, ↓reduceIte, List.drop_succ_cons, List.drop_zero, List.take_succ_cons, List.take_zero, Bool.false_eq_true, List.nil_append, List.cons_append, Bool.not_true, Bool.not_false, cond_true, cond_false, bne, Q85, Q86, Q87, Q88, Q89, Q90, Q91, Q92, Q93, Q94, Q95, Q96, Q97, Q98, Q110, Q111, Q116, Q117, Q118, Q119, Q120, Q121, Q122, Q123, Option.map_some, Option.map_none]
  | false =>
  cases h2 : (k == 2) with
  | true => cases A <;> cases D <;> cases G <;> simp only [c40_0, c40_1, c40_2, c40_3, c40_4, c40_5, tbx, tb0, tb1, tb2, tb3, q1, h1, h2, hA, hD, hchk, snap_str, Bool.true_and, Bool.false_and, Q0, Q1, Q2, Q3, Q4, Q5, Q6, Q7, Q8, Q9, Q10, Q11, Q12, Q13, Q14, Q15, Q16, Q17, Q18, Q19, Q20, Q21, Q22, Q23, Q24, Q25, Q26, Q27, Q28, Q29, Q30, Q31, Q32, Q33, Q35, Q36, Q37, Q38, Q39, Q40, Q41, Q42, Q43, Q44, Q45, Q46, Q47, Q48, Q49, Q50, Q51, Q52, Q53, Q54, Q55, Q56, Q57, Q58, Q59, Q60, Q61, Q62, Q63, Q64, Q65, Q66, Q67, Q68, Q69, Q70, Q71, Q72, Q73, Q99, Q100, Q101, Q102, Q103, Q74, Q75, Q77, Q78, Q79, Q80, Q81, Q82, Q83, Q84, clr, List.length_nil, List.length_cons, List.getElem?_cons_zero, List.getElem?_cons_succ, Nat.reduceAdd, Nat.zero_add, Nat.add_zero, Nat.reduceLeDiff, Nat.reduceSub, ↓reduceIte, List.drop_succ_cons, List.drop_zero, List.take_succ_cons, List.take_zero, Bool.false_eq_true, List.nil_append, List.cons_append, Bool.not_true, Bool.not_false, cond_true, cond_false, bne, Q85, Q86, Q87, Q88, Q89, Q90, Q91, Q92, Q93, Q94, Q95, Q96, Q97, Q98, Q110, Q111, Q116, Q117, Q118, Q119, Q120, Q121, Q122, Q123, Option.map_some, Option.map_none]
  | false =>
  cases h3 : (k == 3) with
  | true => cases A <;> cases B <;> simp only [c40_0, c40_1, c40_2, c40_3, c40_4, c40_5, c40_6, c40_7, tbx, tb0, tb1, tb2, tb3, q1, h1, h2, h3, hA, hB, Bool.true_and, Bool.false_and, Q0, Q1, Q2, Q3, Q4, Q5, Q6, Q7, Q8, Q9, Q10, Q11, Q12, Q13, Q14, Q15, Q16, Q17, Q18, Q19, Q20, Q21, Q22, Q23, Q24, Q25, Q26, Q27, Q28, Q29, Q30, Q31, Q32, Q33, Q35, Q36, Q37, Q38, Q39, Q40, Q41, Q42, Q43, Q44, Q45, Q46, Q47, Q48, Q49, Q50, Q51, Q52, Q53, Q54, Q55, Q56, Q57, Q58, Q59, Q60, Q61, Q62, Q63, Q64, Q65, Q66, Q67, Q68, Q69, Q70, Q71, Q72, Q73, Q99, Q100, Q101, Q102, Q103, Q74, Q75, Q77, Q78, Q79, Q80, Q81, Q82, Q83, Q84, clr, List.length_nil, List.length_cons, List.getElem?_cons_zero, List.getElem?_cons_succ, Nat.reduceAdd, Nat.zero_add, Nat.add_zero, Nat.reduceLeDiff, Nat.reduceSub, ↓reduceIte, List.drop_succ_cons, List.drop_zero, List.take_succ_cons, List.take_zero, Bool.false_eq_true, List.nil_append, List.cons_append, Bool.not_true, Bool.not_false, cond_true, cond_false, bne, Q85, Q86, Q87, Q88, Q89, Q90, Q91, Q92, Q93, Q94, Q95, Q96, Q97, Q98, Q110, Q111, Q116, Q117, Q118, Q119, Q120, Q121, Q122, Q123, Option.map_some, Option.map_none]
  | false =>
  cases h4 : (k == 4) with
  | false => simp only [c40_0, c40_1, c40_2, c40_3, c40_4, c40_5, c40_6, c40_7, c40_8, c40_19, tbx, tb0, tb1, tb2, tb3, q1, h1, h2, h3, h4, Q0, Q1, Q2, Q3, Q4, Q5, Q6, Q7, Q8, Q9, Q10, Q11, Q12, Q13, Q14, Q15, Q16, Q17, Q18, Q19, Q20, Q21, Q22, Q23, Q24, Q25, Q26, Q27, Q28, Q29, Q30, Q31, Q32, Q33, Q35, Q36, Q37, Q38, Q39, Q40, Q41, Q42, Q43, Q44, Q45, Q46, Q47, Q48, Q49, Q50, Q51, Q52, Q53, Q54, Q55, Q56, Q57, Q58, Q59, Q60, Q61, Q62, Q63, Q64, Q65, Q66, Q67, Q68, Q69, Q70, Q71, Q72, Q73, Q99, Q100, Q101, Q102, Q103, Q74, Q75, Q77, Q78, Q79, Q80, Q81, Q82, Q83, Q84, clr, List.length_nil, List.length_cons, List.getElem?_cons_zero, List.getElem?_cons_succ, Nat.reduceAdd, Nat.zero_add, Nat.add_zero, Nat.reduceLeDiff, Nat.reduceSub, ↓reduceIte, List.drop_succ_cons, List.drop_zero, List.take_succ_cons, List.take_zero, Bool.false_eq_true, List.nil_append, List.cons_append, Bool.not_true, Bool.not_false, cond_true, cond_false, bne, Q85, Q86, Q87, Q88, Q89, Q90, Q91, Q92, Q93, Q94, Q95, Q96, Q97, Q98, Q110, Q111, Q116, Q117, Q118, Q119, Q120, Q121, Q122, Q123, Option.map_some, Option.map_none]
  | true =>
   have lp := loop [.agg [.v (.int .i64 k), .v (.string s), .v (.int .i64 n), c], .ptr 0 0, .v (.bool false), .v undef, .v (.int .i64 k), .v (.bool false), .v (.bool false), .v (.bool false), .v (.bool true), .v (.bool false), c, .v (.int .i64 l.length), .v (.int .i64 0), .v undef, .v undef] rfl
   rcases lp with ⟨p0, x3, x14, h', p1⟩ | ⟨p0, v', h', p1, p2⟩
   ·rw [p0]
    cases A <;> cases D <;> cases E <;> cases G <;> simp only [c40_0, c40_1, c40_2, c40_3, c40_4, c40_5, c40_6, c40_7, c40_8, c40_9, c40_10, c40_11, c40_18, V43, tbx, tb0, tb1, tb2, tb3, q1, h1, h2, h3, h4, hA2, hD, hE2, hchk, p1, snap_str, Bool.true_and, Bool.false_and, Q0, Q1, Q2, Q3, Q4, Q5, Q6, Q7, Q8, Q9, Q10, Q11, Q12, Q13, Q14, Q15, Q16, Q17, Q18, Q19, Q20, Q21, Q22, Q23, Q24, Q25, Q26, Q27, Q28, Q29, Q30, Q31, Q32, Q33, Q35, Q36, Q37, Q38, Q39, Q40, Q41, Q42, Q43, Q44, Q45, Q46, Q47, Q48, Q49, Q50, Q51, Q52, Q53, Q54, Q55, Q56, Q57, Q58, Q59, Q60, Q61, Q62, Q63, Q64, Q65, Q66, Q67, Q68, Q69, Q70, Q71, Q72, Q73, Q99, Q100, Q101, Q102, Q103, Q74, Q75, Q77, Q78, Q79, Q80, Q81, Q82, Q83, Q84, clr, List.length_nil, List.length_cons, List.getElem?_cons_zero, List.getElem?_cons_succ, Nat.reduceAdd, Nat.zero_add, Nat.add_zero, Nat.reduceLeDiff, Nat.reduceSub, ↓reduceIte, List.drop_succ_cons, List.drop_zero, List.take_succ_cons, List.take_zero, Bool.false_eq_true, List.nil_append, List.cons_append, Bool.not_true, Bool.not_false, cond_true, cond_false, bne, Q85, Q86, Q87, Q88, Q89, Q90, Q91, Q92, Q93, Q94, Q95, Q96, Q97, Q98, Q110, Q111, Q116, Q117, Q118, Q119, Q120, Q121, Q122, Q123, Option.map_some, Option.map_none]
   ·rw [p0]
    cases A <;> cases D <;> cases E <;> cases G <;> simp only [c40_0, c40_1, c40_2, c40_3, c40_4, c40_5, c40_6, c40_7, c40_8, c40_9, c40_10, c40_11, c40_18, V43, tbx, tb0, tb1, tb2, tb3, q1, h1, h2, h3, h4, hA2, hD, hE2, hchk, p1, p2, snap_str, Bool.true_and, Bool.false_and, Q0, Q1, Q2, Q3, Q4, Q5, Q6, Q7, Q8, Q9, Q10, Q11, Q12, Q13, Q14, Q15, Q16, Q17, Q18, Q19, Q20, Q21, Q22, Q23, Q24, Q25, Q26, Q27, Q28, Q29, Q30, Q31, Q32, Q33, Q35, Q36, Q37, Q38, Q39, Q40, Q41, Q42, Q43, Q44, Q45, Q46, Q47, Q48, Q49, Q50, Q51, Q52, Q53, Q54, Q55, Q56, Q57, Q58, Q59, Q60, Q61, Q62, Q63, Q64, Q65, Q66, Q67, Q68, Q69, Q70, Q71, Q72, Q73, Q99, Q100, Q101, Q102, Q103, Q74, Q75, Q77, Q78, Q79, Q80, Q81, Q82, Q83, Q84, clr, List.length_nil, List.length_cons, List.getElem?_cons_zero, List.getElem?_cons_succ, Nat.reduceAdd, Nat.zero_add, Nat.add_zero, Nat.reduceLeDiff, Nat.reduceSub, ↓reduceIte, List.drop_succ_cons, List.drop_zero, List.take_succ_cons, List.take_zero, Bool.false_eq_true, List.nil_append, List.cons_append, Bool.not_true, Bool.not_false, cond_true, cond_false, bne, Q85, Q86, Q87, Q88, Q89, Q90, Q91, Q92, Q93, Q94, Q95, Q96, Q97, Q98, Q110, Q111, Q116, Q117, Q118, Q119, Q120, Q121, Q122, Q123, Option.map_some, Option.map_none]

def checkT (t : Tm) : Int := if mayT t = true then (if decide (depI t > 60) = true then 3 else 0) else 30
theorem rcheck_ok (t : Tm) (a : AV) (ha : IsT a t) : callW F 12 [a] [] = some (.v (.int .i64 (checkT t)), []) := by
 refine callW_pure (c := c12) rfl rfl 0 ?_
 have hf := ha.facts
 have h1 := rmay_ok _ t a (Nat.lt_succ_self _) ha
 have h2 := rdeep_ok _ t a (Nat.lt_succ_self _) ha
 have e1 : Q76 [.box 24 a.cells] true 4 (.ptr 0 0) = some a := hf.2.2.2.1 [] 24
 unfold checkT
 cases h3 : mayT t with
 | false => rw [h3] at h1; simp only [c12, start, List.replicate, c12_0, c12_1, c12_2, hf, e1, h1, Q0, Q1, Q2, Q3, Q4, Q5, Q6, Q7, Q8, Q9, Q10, Q11, Q12, Q13, Q14, Q15, Q16, Q17, Q18, Q19, Q20, Q21, Q22, Q23, Q24, Q25, Q26, Q27, Q28, Q29, Q30, Q31, Q32, Q33, Q35, Q36, Q37, Q38, Q39, Q40, Q41, Q42, Q43, Q44, Q45, Q46, Q47, Q48, Q49, Q50, Q51, Q52, Q53, Q54, Q55, Q56, Q57, Q58, Q59, Q60, Q61, Q62, Q63, Q64, Q65, Q66, Q67, Q68, Q69, Q70, Q71, Q72, Q73, Q99, Q100, Q101, Q102, Q103, Q74, Q75, Q77, Q78, Q79, Q80, Q81, Q82, Q83, Q84, clr, List.length_nil, List.length_cons, List.getElem?_cons_zero, List.getElem?_cons_succ, Nat.reduceAdd, Nat.zero_add, Nat.add_zero, Nat.reduceLeDiff, Nat.reduceSub, ↓reduceIte, List.drop_succ_cons, List.drop_zero, List.take_succ_cons, List.take_zero, Bool.false_eq_true, List.nil_append, List.cons_append, Bool.not_true, Bool.not_false, cond_true, cond_false, bne, Q85, Q86, Q87, Q88, Q89, Q90, Q91, Q92, Q93, Q94, Q95, Q96, Q97, Q98, Q110, Q111, Q116, Q117, Q118, Q119, Q120, Q121, Q122, Q123, Option.map_some, Option.map_none, Q34]
 | true =>
  rw [h3] at h1
  cases h4 : decide (depI t > 60) <;> simp only [c12, start, List.replicate, c12_0, c12_1, c12_3, c12_4, c12_5, hf, e1, h1, h2, h4, Q0, Q1, Q2, Q3, Q4, Q5, Q6, Q7, Q8, Q9, Q10, Q11, Q12, Q13, Q14, Q15, Q16, Q17, Q18, Q19, Q20, Q21, Q22, Q23, Q24, Q25, Q26, Q27, Q28, Q29, Q30, Q31, Q32, Q33, Q35, Q36, Q37, Q38, Q39, Q40, Q41, Q42, Q43, Q44, Q45, Q46, Q47, Q48, Q49, Q50, Q51, Q52, Q53, Q54, Q55, Q56, Q57, Q58, Q59, Q60, Q61, Q62, Q63, Q64, Q65, Q66, Q67, Q68, Q69, Q70, Q71, Q72, Q73, Q99, Q100, Q101, Q102, Q103, Q74, Q75, Q77, Q78, Q79, Q80, Q81, Q82, Q83, Q84, clr, List.length_nil, List.length_cons, List.getElem?_cons_zero, List.getElem?_cons_succ, Nat.reduceAdd, Nat.zero_add, Nat.add_zero, Nat.reduceLeDiff, Nat.reduceSub, ↓reduceIte, List.drop_succ_cons, List.drop_zero, List.take_succ_cons, List.take_zero, Bool.false_eq_true, List.nil_append, List.cons_append, Bool.not_true, Bool.not_false, cond_true, cond_false, bne, Q85, Q86, Q87, Q88, Q89, Q90, Q91, Q92, Q93, Q94, Q95, Q96, Q97, Q98, Q110, Q111, Q116, Q117, Q118, Q119, Q120, Q121, Q122, Q123, Option.map_some, Option.map_none, Q34]
end Go.AE.YtinhjhkmpknbbaaDoor
end

section
namespace Go.AE.YtinhjhkmpknbbaaDoor
open Go Go.AE Go.Proofs.YtinhjhkmpknbbaaDoor

section
variable {k n k' n' : Int} {s s' : ByteArray} {c c' : AV} {G : List AO}
theorem tc0 : Q76 (tb k n s c :: tb k' n' s' c' :: G) false 1 (.ptr 1 0) = some (.v (.int .i64 k')) := rfl
theorem tc1 : Q76 (tb k n s c :: tb k' n' s' c' :: G) false 1 (.ptr 1 1) = some (.v (.string s')) := rfl
theorem tc2 : Q76 (tb k n s c :: tb k' n' s' c' :: G) false 1 (.ptr 1 2) = some (.v (.int .i64 n')) := rfl
theorem tc3 : Q76 (tb k n s c :: tb k' n' s' c' :: G) false 1 (.ptr 1 3) = some c' := rfl
theorem tcx : bx [tb k n s c] 24 (some [.v (.int .i64 k'), .v (.string s'), .v (.int .i64 n'), c']) = some (.ptr 1 0, [tb k n s c, tb k' n' s' c']) := rfl
end
def headS (k : Int) (s : ByteArray) (n : Int) (l : List Tm) (k' : Int) (s' : ByteArray) (n' : Int) (l' : List Tm) : Bool := (k == k') && ((n == n') && ((s.toList == s'.toList) && ((l.length : Int) == (l'.length : Int))))
mutual
def sameT : Tm → Tm → Bool
 | .mk k s n l, .mk k' s' n' l' => headS k s n l k' s' n' l' && sameL l l'
def sameL : List Tm → List Tm → Bool
 | [], _ => true
 | _, [] => true
 | a :: l, b :: l' => sameT a b && sameL l l'
end
theorem headS_len {k n k' n' : Int} {s s' : ByteArray} {l l' : List Tm} (h : headS k s n l k' s' n' l' = true) : l.length = l'.length := by
 simp only [headS, Bool.and_eq_true, beq_iff_eq] at h
 omega
theorem toL_inj {s s' : ByteArray} (h : s.toList = s'.toList) : s = s' := by
 rw [ByteArray.toList_eq, ByteArray.toList_eq] at h
 cases s with | mk d => cases s' with | mk d' => cases d with | mk x => cases d' with | mk y => simp at h; rw [h]
theorem same_iff : ∀ (N : Nat) (t u : Tm), SizeOf.sizeOf t < N → (sameT t u = true ↔ t = u) := by
 intro N
 induction N with
 | zero => intro t u h; omega
 | succ N ih =>
  have hl : ∀ (l m : List Tm), SizeOf.sizeOf l < N + 1 → l.length = m.length → (sameL l m = true ↔ l = m) := by
   intro l
   induction l with
   | nil =>
    intro m _ h1
    cases m with
    | nil => simp [sameL]
    | cons => simp at h1
   | cons x l ihl =>
    intro m hs h1
    cases m with
    | nil => simp at h1
    | cons y m =>
    simp only [List.length_cons, Nat.add_right_cancel_iff, List.cons.sizeOf_spec] at h1 hs
    rw [sameL, Bool.and_eq_true, ih x y (by omega), ihl m (by omega) h1, List.cons.injEq]
  rintro ⟨k, s, n, l⟩ ⟨k', s', n', l'⟩ hs
  simp only [Tm.mk.sizeOf_spec] at hs
  rw [sameT, Bool.and_eq_true, Tm.mk.injEq]
  constructor
  ·rintro ⟨h1, h2⟩
   have h3 := headS_len h1
   simp only [headS, Bool.and_eq_true, beq_iff_eq] at h1
   exact ⟨h1.1, toL_inj h1.2.2.1, h1.2.1, (hl l l' (by omega) h3).1 h2⟩
  ·rintro ⟨rfl, rfl, rfl, rfl⟩
   exact ⟨by simp [headS], (hl l l (by omega) rfl).2 rfl⟩

def V15 (n i : Int) (x5 x9 x10 : AV) : List AV := [.junk, .junk, .ptr 0 0, .ptr 1 0, .junk, x5, .junk, .v (.int .i64 n), .v (.int .i64 i), x9, x10]
def K15 : List Bool := [false, false, true, true, false, false, false, true, true, false, false]
theorem rsame_ok : ∀ (N : Nat) (t u : Tm) (a b : AV), SizeOf.sizeOf t < N → IsT a t → IsT b u → callW F 17 [a, b] [] = some (.v (.bool (sameT t u)), []) := by
 intro N
 induction N with
 | zero => intro t u a b h; omega
 | succ N ih =>
  intro t u a b hN ha hb
  cases ha with
  | mk k s n c l hc =>
  cases hb with
  | mk k' s' n' c' l' hc' =>
  obtain ⟨es, hs, hes, hm⟩ := hc.sl
  obtain ⟨es', hs', hes', hm'⟩ := hc'.sl
  have hll := hes.length
  have hll' := hes'.length
  refine callW_pure (c := c17) rfl rfl (l.length + 1) ?_
  have q1 := fun h : List AO => hs.len h
  have q1' := fun h : List AO => hs'.len h
  rw [hll] at q1
  rw [hll'] at q1'
  rw [sameT]
  have hlen : headS k s n l k' s' n' l' = true → l.length = l'.length := headS_len
  have loop : l.length = l'.length → ∀ (v : List AV), clr K15 v = V15 l.length 0 .junk .junk .junk → (sameL l l' = true ∧ loopN (exec (callW F) (l.length + 1) c17_9) K15 (l.length + 1) v [tb k n s c, tb k' n' s' c'] = some (.exit 0, V15 l.length l.length .junk (.v (.bool false)) .junk, [tb k n s c, tb k' n' s' c'])) ∨
    (sameL l l' = false ∧ ∃ v' h, loopN (exec (callW F) (l.length + 1) c17_9) K15 (l.length + 1) v [tb k n s c, tb k' n' s' c'] = some (.ret, v', h) ∧ getO v' [] (.var 4) = .v (.bool false)) := by
   intro hleq v hv
   obtain ⟨e, v', h', g1, g2, g3⟩ := loop_rule0 (call := callW F) (K := l.length + 1) (b := c17_9) (keep := K15)
    (fun i v h => v = V15 l.length i .junk .junk .junk ∧ h = [tb k n s c, tb k' n' s' c'] ∧ sameL (l.drop i) (l'.drop i) = sameL l l')
    (fun e v h => (e = .exit 0 ∧ sameL l l' = true ∧ v = V15 l.length l.length .junk (.v (.bool false)) .junk ∧ h = [tb k n s c, tb k' n' s' c']) ∨ (e = .ret ∧ sameL l l' = false ∧ getO v [] (.var 4) = .v (.bool false)))
    l.length (m := l.length + 1) (v := v) (h := [tb k n s c, tb k' n' s' c']) (by omega) ⟨hv, rfl, rfl⟩ (by
     rintro i v h hi ⟨rfl, rfl, hR⟩
     by_cases hil : i < l.length
     ·have hil' : i < l'.length := by omega
      have hle : i < es.length := by omega
      have hle' : i < es'.length := by omega
      have hT := hes.at hle hil
      have hT' := hes'.at hle' hil'
      have hlt := lt_t hil
      have he : es[i]? = some es[i] := List.getElem?_eq_getElem hle
      have he' : es'[i]? = some es'[i] := List.getElem?_eq_getElem hle'
      have q2 := fun h : List AO => hs.ia he h
      have q2' := fun h : List AO => hs'.ia he' h
      have hf := hT.facts
      have hf' := hT'.facts
      have hd : l.drop i = l[i] :: l.drop (i + 1) := List.drop_eq_getElem_cons hil
      have hd' : l'.drop i = l'[i] :: l'.drop (i + 1) := List.drop_eq_getElem_cons hil'
      have hw := wrap_succ hle hm
      have hc := ih l[i] l'[i] es[i] es'[i] (by have := IsL.mem_size (k := k) (n := n) (s := s) (List.getElem_mem hil); omega) hT hT'
      rw [hd, hd', sameL] at hR
      cases hq : sameT l[i] l'[i] with
      | true =>
       rw [hq, Bool.true_and] at hR
       rw [hq] at hc
       refine ⟨.normal, V15 l.length ((i + 1 : Nat) : Int) (.v (.int .i64 i)) (.v (.bool true)) (.v (.bool false)), [tb k n s c, tb k' n' s' c'], ?_, hil, rfl, rfl, hR⟩
       simp only [V15, c17_9, c17_4, c17_5, c17_6, c17_8, hlt, q2, q2', hf, hf', hc, hw, tb3, tc3, Q0, Q1, Q2, Q3, Q4, Q5, Q6, Q7, Q8, Q9, Q10, Q11, Q12, Q13, Q14, Q15, Q16, Q17, Q18, Q19, Q20, Q21, Q22, Q23, Q24, Q25, Q26, Q27, Q28, Q29, Q30, Q31, Q32, Q33, Q35, Q36, Q37, Q38, Q39, Q40, Q41, Q42, Q43, Q44, Q45, Q46, Q47, Q48, Q49, Q50, Q51, Q52, Q53, Q54, Q55, Q56, Q57, Q58, Q59, Q60, Q61, Q62, Q63, Q64, Q65, Q66, Q67, Q68, Q69, Q70, Q71, Q72, Q73, Q99, Q100, Q101, Q102, Q103, Q74, Q75, Q77, Q78, Q79, Q80, Q81, Q82, Q83, Q84, clr, List.length_nil, List.length_cons, List.getElem?_cons_zero, List.getElem?_cons_succ, Nat.reduceAdd, Nat.zero_add, Nat.add_zero, Nat.reduceLeDiff, Nat.reduceSub, ↓reduceIte, List.drop_succ_cons, List.drop_zero, List.take_succ_cons, List.take_zero, Bool.false_eq_true, List.nil_append, List.cons_append, Bool.not_true, Bool.not_false, cond_true, cond_false, bne, Q85, Q86, Q87, Q88, Q89, Q90, Q91, Q92, Q93, Q94, Q95, Q96, Q97, Q98, Q110, Q111, Q116, Q117, Q118, Q119, Q120, Q121, Q122, Q123, Option.map_some, Option.map_none, Q34]
      | false =>
       rw [hq, Bool.false_and] at hR
       rw [hq] at hc
       refine ⟨.ret, [.junk, .junk, .ptr 0 0, .ptr 1 0, .v (.bool false), .v (.int .i64 i), .junk, .v (.int .i64 l.length), .v (.int .i64 i), .v (.bool true), .v (.bool true)], [tb k n s c, tb k' n' s' c'], ?_, .inr ⟨rfl, hR.symm, rfl⟩⟩
       simp only [V15, c17_9, c17_4, c17_5, c17_6, c17_7, hlt, q2, q2', hf, hf', hc, hw, tb3, tc3, Q0, Q1, Q2, Q3, Q4, Q5, Q6, Q7, Q8, Q9, Q10, Q11, Q12, Q13, Q14, Q15, Q16, Q17, Q18, Q19, Q20, Q21, Q22, Q23, Q24, Q25, Q26, Q27, Q28, Q29, Q30, Q31, Q32, Q33, Q35, Q36, Q37, Q38, Q39, Q40, Q41, Q42, Q43, Q44, Q45, Q46, Q47, Q48, Q49, Q50, Q51, Q52, Q53, Q54, Q55, Q56, Q57, Q58, Q59, Q60, Q61, Q62, Q63, Q64, Q65, Q66, Q67, Q68, Q69, Q70, Q71, Q72, Q73, Q99, Q100, Q101, Q102, Q103, Q74, Q75, Q77, Q78, Q79, Q80, Q81, Q82, Q83, Q84, clr, List.length_nil, List.length_cons, List.getElem?_cons_zero, List.getElem?_cons_succ, Nat.reduceAdd, Nat.zero_add, Nat.add_zero, Nat.reduceLeDiff, Nat.reduceSub, ↓reduceIte, List.drop_succ_cons, List.drop_zero, List.take_succ_cons, List.take_zero, Bool.false_eq_true, List.nil_append, List.cons_append, Bool.not_true, Bool.not_false, cond_true, cond_false, bne, Q85, Q86, Q87, Q88, Q89, Q90, Q91, Q92, Q93, Q94, Q95, Q96, Q97, Q98, Q110, Q111, Q116, Q117, Q118, Q119, Q120, Q121, Q122, Q123, Option.map_some, Option.map_none, Q34]
     ·have hie : i = l.length := by omega
      subst hie
      have hlt := lt_f (n := l.length)
      rw [List.drop_of_length_le (Nat.le_refl _), sameL] at hR
      refine ⟨.exit 0, V15 l.length l.length .junk (.v (.bool false)) .junk, _, ?_, .inl ⟨rfl, hR.symm, rfl, rfl⟩⟩
      simp only [V15, c17_9, c17_4, hlt, Q0, Q1, Q2, Q3, Q4, Q5, Q6, Q7, Q8, Q9, Q10, Q11, Q12, Q13, Q14, Q15, Q16, Q17, Q18, Q19, Q20, Q21, Q22, Q23, Q24, Q25, Q26, Q27, Q28, Q29, Q30, Q31, Q32, Q33, Q35, Q36, Q37, Q38, Q39, Q40, Q41, Q42, Q43, Q44, Q45, Q46, Q47, Q48, Q49, Q50, Q51, Q52, Q53, Q54, Q55, Q56, Q57, Q58, Q59, Q60, Q61, Q62, Q63, Q64, Q65, Q66, Q67, Q68, Q69, Q70, Q71, Q72, Q73, Q99, Q100, Q101, Q102, Q103, Q74, Q75, Q77, Q78, Q79, Q80, Q81, Q82, Q83, Q84, clr, List.length_nil, List.length_cons, List.getElem?_cons_zero, List.getElem?_cons_succ, Nat.reduceAdd, Nat.zero_add, Nat.add_zero, Nat.reduceLeDiff, Nat.reduceSub, ↓reduceIte, List.drop_succ_cons, List.drop_zero, List.take_succ_cons, List.take_zero, Bool.false_eq_true, List.nil_append, List.cons_append, Bool.not_true, Bool.not_false, cond_true, cond_false, bne, Q85, Q86, Q87, Q88, Q89, Q90, Q91, Q92, Q93, Q94, Q95, Q96, Q97, Q98, Q110, Q111, Q116, Q117, Q118, Q119, Q120, Q121, Q122, Q123, Option.map_some, Option.map_none, Q34])
   rcases g3 with ⟨rfl, h1, rfl, rfl⟩ | ⟨rfl, h1, h2⟩
   ·exact .inl ⟨h1, g1⟩
   ·exact .inr ⟨h1, v', h', g1, h2⟩
  rw [show c17.body = (.seq (.region [] [] c17_0) (.seq (.seq (.region [] [] c17_1) (.cond (.var 6) (.seq (.region [] [] c17_2) .ret) .skip)) (.seq (.seq (.region [] [] c17_3) (.block 0 (.loop K15 [] c17_9))) (.seq (.region [] [] c17_10) .ret)))) from rfl, show c17.res = [.var 4] from rfl]
  rw [show start c17 [.agg [.v (.int .i64 k), .v (.string s), .v (.int .i64 n), c], .agg [.v (.int .i64 k'), .v (.string s'), .v (.int .i64 n'), c']] = [.agg [.v (.int .i64 k), .v (.string s), .v (.int .i64 n), c], .agg [.v (.int .i64 k'), .v (.string s'), .v (.int .i64 n'), c'], .v undef, .v undef, .v undef, .v undef, .v undef, .v undef, .v undef, .v undef, .v undef] from rfl]
  generalize c17_9 = bb at loop ⊢
  cases hc0 : headS k s n l k' s' n' l' with
  | false =>
   unfold headS at hc0
   cases h1 : (k == k') <;> cases h2 : (n == n') <;> cases h3 : (s.toList == s'.toList) <;> cases h4 : ((l.length : Int) == (l'.length : Int)) <;>
    (simp only [h1, h2, h3, h4, Bool.and_true, Bool.and_false, Bool.false_and, Bool.true_and, Bool.and_self, reduceCtorEq] at hc0) <;>
    simp only [c17_0, c17_1, c17_2, tbx, tcx, tb0, tb1, tb2, tb3, tc0, tc1, tc2, tc3, q1, q1', h1, h2, h3, h4, Bool.not_true, Bool.not_false, Bool.false_and, Q0, Q1, Q2, Q3, Q4, Q5, Q6, Q7, Q8, Q9, Q10, Q11, Q12, Q13, Q14, Q15, Q16, Q17, Q18, Q19, Q20, Q21, Q22, Q23, Q24, Q25, Q26, Q27, Q28, Q29, Q30, Q31, Q32, Q33, Q35, Q36, Q37, Q38, Q39, Q40, Q41, Q42, Q43, Q44, Q45, Q46, Q47, Q48, Q49, Q50, Q51, Q52, Q53, Q54, Q55, Q56, Q57, Q58, Q59, Q60, Q61, Q62, Q63, Q64, Q65, Q66, Q67, Q68, Q69, Q70, Q71, Q72, Q73, Q99, Q100, Q101, Q102, Q103, Q74, Q75, Q77, Q78, Q79, Q80, Q81, Q82, Q83, Q84, clr, List.length_nil, List.length_cons, List.getElem?_cons_zero, List.getElem?_cons_succ, Nat.reduceAdd, Nat.zero_add, Nat.add_zero, Nat.reduceLeDiff, Nat.reduceSub, ↓reduceIte, List.drop_succ_cons, List.drop_zero, List.take_succ_cons, List.take_zero, Bool.false_eq_true, List.nil_append, List.cons_append, Bool.not_true, Bool.not_false, cond_true, cond_false, bne, Q85, Q86, Q87, Q88, Q89, Q90, Q91, Q92, Q93, Q94, Q95, Q96, Q97, Q98, Q110, Q111, Q116, Q117, Q118, Q119, Q120, Q121, Q122, Q123, Option.map_some, Option.map_none]
  | true =>
   have lp := loop (hlen hc0) [.agg [.v (.int .i64 k), .v (.string s), .v (.int .i64 n), c], .agg [.v (.int .i64 k'), .v (.string s'), .v (.int .i64 n'), c'], .ptr 0 0, .ptr 1 0, .v (.bool false), .v undef, .v (.bool false), .v (.int .i64 l.length), .v (.int .i64 0), .v undef, .v undef] rfl
   simp only [headS, Bool.and_eq_true] at hc0
   obtain ⟨h1, h2, h3, h4⟩ := hc0
   rcases lp with ⟨p0, p1⟩ | ⟨p0, v', h', p1, p2⟩
   ·rw [p0]
    simp only [V15, c17_0, c17_1, c17_3, c17_10, tbx, tcx, tb0, tb1, tb2, tb3, tc0, tc1, tc2, tc3, q1, q1', h1, h2, h3, h4, p1, Bool.not_true, Bool.not_false, Bool.true_and, Q0, Q1, Q2, Q3, Q4, Q5, Q6, Q7, Q8, Q9, Q10, Q11, Q12, Q13, Q14, Q15, Q16, Q17, Q18, Q19, Q20, Q21, Q22, Q23, Q24, Q25, Q26, Q27, Q28, Q29, Q30, Q31, Q32, Q33, Q35, Q36, Q37, Q38, Q39, Q40, Q41, Q42, Q43, Q44, Q45, Q46, Q47, Q48, Q49, Q50, Q51, Q52, Q53, Q54, Q55, Q56, Q57, Q58, Q59, Q60, Q61, Q62, Q63, Q64, Q65, Q66, Q67, Q68, Q69, Q70, Q71, Q72, Q73, Q99, Q100, Q101, Q102, Q103, Q74, Q75, Q77, Q78, Q79, Q80, Q81, Q82, Q83, Q84, clr, List.length_nil, List.length_cons, List.getElem?_cons_zero, List.getElem?_cons_succ, Nat.reduceAdd, Nat.zero_add, Nat.add_zero, Nat.reduceLeDiff, Nat.reduceSub, ↓reduceIte, List.drop_succ_cons, List.drop_zero, List.take_succ_cons, List.take_zero, Bool.false_eq_true, List.nil_append, List.cons_append, Bool.not_true, Bool.not_false, cond_true, cond_false, bne, Q85, Q86, Q87, Q88, Q89, Q90, Q91, Q92, Q93, Q94, Q95, Q96, Q97, Q98, Q110, Q111, Q116, Q117, Q118, Q119, Q120, Q121, Q122, Q123, Option.map_some, Option.map_none]
   ·rw [p0]
    simp only [V15, c17_0, c17_1, c17_3, c17_10, tbx, tcx, tb0, tb1, tb2, tb3, tc0, tc1, tc2, tc3, q1, q1', h1, h2, h3, h4, p1, p2, Bool.not_true, Bool.not_false, Bool.and_false, Q0, Q1, Q2, Q3, Q4, Q5, Q6, Q7, Q8, Q9, Q10, Q11, Q12, Q13, Q14, Q15, Q16, Q17, Q18, Q19, Q20, Q21, Q22, Q23, Q24, Q25, Q26, Q27, Q28, Q29, Q30, Q31, Q32, Q33, Q35, Q36, Q37, Q38, Q39, Q40, Q41, Q42, Q43, Q44, Q45, Q46, Q47, Q48, Q49, Q50, Q51, Q52, Q53, Q54, Q55, Q56, Q57, Q58, Q59, Q60, Q61, Q62, Q63, Q64, Q65, Q66, Q67, Q68, Q69, Q70, Q71, Q72, Q73, Q99, Q100, Q101, Q102, Q103, Q74, Q75, Q77, Q78, Q79, Q80, Q81, Q82, Q83, Q84, clr, List.length_nil, List.length_cons, List.getElem?_cons_zero, List.getElem?_cons_succ, Nat.reduceAdd, Nat.zero_add, Nat.add_zero, Nat.reduceLeDiff, Nat.reduceSub, ↓reduceIte, List.drop_succ_cons, List.drop_zero, List.take_succ_cons, List.take_zero, Bool.false_eq_true, List.nil_append, List.cons_append, Bool.not_true, Bool.not_false, cond_true, cond_false, bne, Q85, Q86, Q87, Q88, Q89, Q90, Q91, Q92, Q93, Q94, Q95, Q96, Q97, Q98, Q110, Q111, Q116, Q117, Q118, Q119, Q120, Q121, Q122, Q123, Option.map_some, Option.map_none]
end Go.AE.YtinhjhkmpknbbaaDoor
end

section
namespace Go.AE.YtinhjhkmpknbbaaDoor
open Go Go.AE Go.Proofs.YtinhjhkmpknbbaaDoor

theorem small_maxM {n m : Nat} (h : n ≤ m) (hm : m ≤ 1000000 := by decide) : n ≤ maxLen := by
 have : maxLen = 9223372036854775807 := rfl
 omega
def iv (n : Int) : AV := .v (.int .i64 n)
mutual
def placesT : Tm → List Int
 | .mk k _ n l => (if k = 1 then [n] else []) ++ placesL l
def placesL : List Tm → List Int
 | [] => []
 | t :: l => placesT t ++ placesL l
end
mutual
theorem places_len : ∀ t : Tm, (placesT t).length ≤ size t
 | .mk k s n l => by
  have := placesL_len l
  simp only [placesT, size, List.length_append]
  split <;> simp <;> omega
theorem placesL_len : ∀ l : List Tm, (placesL l).length ≤ sizeL l
 | [] => by simp [placesL, sizeL]
 | t :: l => by
  have := places_len t
  have := placesL_len l
  simp only [placesL, sizeL, List.length_append]; omega
end

def K38 : List Bool := [false, true, false, false, true, true, true, false, false]
def L38 (n : Int) (c : AV) (len i : Int) : List AV := [.junk, .v (.int .i64 n), .junk, .junk, c, .v (.int .i64 len), .v (.int .i64 i), .junk, .junk]
theorem has_loop {K : Nat} {c : AV} {es : List AV} (hs : Sl 1 c es) (hm : es.length ≤ 1000000) (n : Int) :
  ∀ (l : List Int) (i : Nat) (h : List AO) (vars : List AV), i + l.length = es.length → es.drop i = l.map iv → clr K38 vars = L38 n c es.length i →
   (l.contains n = true ∧ ∃ vs, loopN (exec (callW F) K c81_7) K38 (l.length + 1) vars h = some (.ret, vs, h) ∧ getO vs [] (.var 2) = .v (.bool true)) ∨ (l.contains n = false ∧ ∃ vs, loopN (exec (callW F) K c81_7) K38 (l.length + 1) vars h = some (.exit 0, vs, h) ∧ vs.length = 9) := by
 intro l
 induction l with
 | nil =>
  intro i h vars hi _ hv
  have hil : i = es.length := by simpa using hi
  subst hil
  have hlt : decide ((es.length : Int) < (es.length : Int)) = false := by simp
  refine .inr ⟨rfl, [.junk, .v (.int .i64 n), .junk, .junk, c, .v (.int .i64 es.length), .v (.int .i64 es.length), .v (.bool false), .junk], loop_exit ?_, rfl⟩
  rw [hv]
  simp only [L38, c81_7, c81_2, hlt, Q104, Q105, bs1, bs2, Q106, Q107, Q108, Q109, bd1, Q110, Q111, toL, List.map_cons, List.map_nil, Q112, List.set_cons_zero, List.set_cons_succ, and_self, Nat.le_refl, Q114, Q115, Q116, Q0, Q1, Q2, Q3, Q4, Q5, Q6, Q7, Q8, Q9, Q10, Q11, Q12, Q13, Q14, Q15, Q16, Q17, Q18, Q19, Q20, Q21, Q22, Q23, Q24, Q25, Q26, Q27, Q28, Q29, Q30, Q31, Q32, Q33, Q34, Q35, Q36, Q37, Q38, Q39, Q40, Q41, Q42, Q43, Q44, Q45, Q46, Q47, Q48, Q49, Q50, Q51, Q52, Q53, Q54, Q55, Q56, Q57, Q58, Q59, Q60, Q61, Q62, Q63, Q64, Q65, Q66, Q67, Q68, Q69, Q70, Q71, Q72, Q73, AV.cl, Q74, Q75, Q76, Q77, Q78, Q79, Q80, Q81, Q82, Q83, Q84, clr, List.length_nil, List.length_cons, List.getElem?_cons_zero, List.getElem?_cons_succ, Nat.reduceAdd, Nat.zero_add, Nat.add_zero, Nat.reduceLeDiff, Nat.reduceSub, ↓reduceIte, List.drop_succ_cons, List.drop_zero, List.take_succ_cons, List.take_zero, Bool.false_eq_true, List.nil_append, List.cons_append, Bool.not_true, Bool.not_false, cond_true, cond_false, bne, Q85, Q86, Q87, Q88, Q89, Q90, Q91, Q92, Q93, Q94, Q95, Q96, Q97, Q98]
 | cons k l ih =>
  intro i h vars hi hes hv
  have hil : i < es.length := by simp at hi; omega
  have he : es[i]? = some (iv k) := by
   have : (es.drop i)[0]? = some (iv k) := by rw [hes]; rfl
   simpa using this
  have hd : es.drop (i + 1) = l.map iv := by
   have h2 := congrArg List.tail hes
   simpa using h2
  have hlt : (decide ((i : Int) < (es.length : Int))) = true := by simp; omega
  have q1 := hs.ia he
  by_cases hk : n = k
  ·left
   subst hk
   have he : ((n == n) : Bool) = true := by simp
   refine ⟨by simp, [.junk, .v (.int .i64 n), .v (.bool true), .v (.int .i64 n), c, .v (.int .i64 es.length), .v (.int .i64 i), .v (.bool true), .v (.bool true)], loop_ret ?_, rfl⟩
   rw [hv]
   simp only [L38, iv, AV.cells, c81_7, c81_2, c81_3, c81_4, c81_5, hlt, he, q1, Q104, Q105, bs1, bs2, Q106, Q107, Q108, Q109, bd1, Q110, Q111, toL, List.map_cons, List.map_nil, Q112, List.set_cons_zero, List.set_cons_succ, and_self, Nat.le_refl, Q114, Q115, Q116, Q0, Q1, Q2, Q3, Q4, Q5, Q6, Q7, Q8, Q9, Q10, Q11, Q12, Q13, Q14, Q15, Q16, Q17, Q18, Q19, Q20, Q21, Q22, Q23, Q24, Q25, Q26, Q27, Q28, Q29, Q30, Q31, Q32, Q33, Q34, Q35, Q36, Q37, Q38, Q39, Q40, Q41, Q42, Q43, Q44, Q45, Q46, Q47, Q48, Q49, Q50, Q51, Q52, Q53, Q54, Q55, Q56, Q57, Q58, Q59, Q60, Q61, Q62, Q63, Q64, Q65, Q66, Q67, Q68, Q69, Q70, Q71, Q72, Q73, AV.cl, Q74, Q75, Q76, Q77, Q78, Q79, Q80, Q81, Q82, Q83, Q84, clr, List.length_nil, List.length_cons, List.getElem?_cons_zero, List.getElem?_cons_succ, Nat.reduceAdd, Nat.zero_add, Nat.add_zero, Nat.reduceLeDiff, Nat.reduceSub, ↓reduceIte, List.drop_succ_cons, List.drop_zero, List.take_succ_cons, List.take_zero, Bool.false_eq_true, List.nil_append, List.cons_append, Bool.not_true, Bool.not_false, cond_true, cond_false, bne, Q85, Q86, Q87, Q88, Q89, Q90, Q91, Q92, Q93, Q94, Q95, Q96, Q97, Q98]
  ·have he : ((k == n) : Bool) = false := by simpa using fun e => hk e.symm
   have st : exec (callW F) K c81_7 (L38 n c es.length i) h = some (.normal, [.junk, .v (.int .i64 n), .junk, .v (.int .i64 k), c, .v (.int .i64 es.length), .v (.int .i64 ((i + 1 : Nat) : Int)), .v (.bool true), .v (.bool false)], h) := by
    have : maxLen = 9223372036854775807 := rfl
    simp only [L38, iv, AV.cells, c81_7, c81_2, c81_3, c81_4, c81_6, hlt, he, wrap_succ hil (by omega), q1, Q104, Q105, bs1, bs2, Q106, Q107, Q108, Q109, bd1, Q110, Q111, toL, List.map_cons, List.map_nil, Q112, List.set_cons_zero, List.set_cons_succ, and_self, Nat.le_refl, Q114, Q115, Q116, Q0, Q1, Q2, Q3, Q4, Q5, Q6, Q7, Q8, Q9, Q10, Q11, Q12, Q13, Q14, Q15, Q16, Q17, Q18, Q19, Q20, Q21, Q22, Q23, Q24, Q25, Q26, Q27, Q28, Q29, Q30, Q31, Q32, Q33, Q34, Q35, Q36, Q37, Q38, Q39, Q40, Q41, Q42, Q43, Q44, Q45, Q46, Q47, Q48, Q49, Q50, Q51, Q52, Q53, Q54, Q55, Q56, Q57, Q58, Q59, Q60, Q61, Q62, Q63, Q64, Q65, Q66, Q67, Q68, Q69, Q70, Q71, Q72, Q73, AV.cl, Q74, Q75, Q76, Q77, Q78, Q79, Q80, Q81, Q82, Q83, Q84, clr, List.length_nil, List.length_cons, List.getElem?_cons_zero, List.getElem?_cons_succ, Nat.reduceAdd, Nat.zero_add, Nat.add_zero, Nat.reduceLeDiff, Nat.reduceSub, ↓reduceIte, List.drop_succ_cons, List.drop_zero, List.take_succ_cons, List.take_zero, Bool.false_eq_true, List.nil_append, List.cons_append, Bool.not_true, Bool.not_false, cond_true, cond_false, bne, Q85, Q86, Q87, Q88, Q89, Q90, Q91, Q92, Q93, Q94, Q95, Q96, Q97, Q98]
   rw [show (k :: l).length + 1 = (l.length + 1) + 1 from rfl, loop_normal (by rw [hv]; exact st)]
   have hc : (k :: l).contains n = l.contains n := by
    have : (n == k) = false := by simpa using hk
    rw [List.contains_cons, this, Bool.false_or]
   rw [hc]
   exact ih (i + 1) h _ (by simp at hi; omega) hd rfl
theorem has_ok {c : AV} {ns : List Int} (hs : Sl 1 c (ns.map iv)) (hm : ns.length ≤ 1000000) (n : Int) : callW F 81 [c, .v (.int .i64 n)] [] = some (.v (.bool (ns.contains n)), []) := by
 refine callW_pure (c := c81) rfl rfl (ns.length + 1) ?_
 have key := has_loop (K := ns.length + 1) hs (by simpa using hm) n ns 0 [] (L38 n c (ns.map iv).length (0 : Nat)) (by simp) rfl rfl
 show lv [.var 2] (exec (callW F) (ns.length + 1) (.seq (.region [] [] c81_0) (.seq (.seq (.region [] [] c81_1) (.block 0 (.loop K38 [] c81_7))) (.seq (.region [] [] c81_8) .ret))) _ _) = _
 generalize hrest : (CC.seq (.region [] [] c81_8) .ret) = rest
 simp only [c81, start, List.replicate, c81_0, c81_1, hs.len, Q104, Q105, bs1, bs2, Q106, Q107, Q108, Q109, bd1, Q110, Q111, toL, List.map_cons, List.map_nil, Q112, List.set_cons_zero, List.set_cons_succ, and_self, Nat.le_refl, Q114, Q115, Q116, Q0, Q1, Q2, Q3, Q4, Q5, Q6, Q7, Q8, Q9, Q10, Q11, Q12, Q13, Q14, Q15, Q16, Q17, Q18, Q19, Q20, Q21, Q22, Q23, Q24, Q25, Q26, Q27, Q28, Q29, Q30, Q31, Q32, Q33, Q34, Q35, Q36, Q37, Q38, Q39, Q40, Q41, Q42, Q43, Q44, Q45, Q46, Q47, Q48, Q49, Q50, Q51, Q52, Q53, Q54, Q55, Q56, Q57, Q58, Q59, Q60, Q61, Q62, Q63, Q64, Q65, Q66, Q67, Q68, Q69, Q70, Q71, Q72, Q73, AV.cl, Q74, Q75, Q76, Q77, Q78, Q79, Q80, Q81, Q82, Q83, Q84, clr, List.length_nil, List.length_cons, List.getElem?_cons_zero, List.getElem?_cons_succ, Nat.reduceAdd, Nat.zero_add, Nat.add_zero, Nat.reduceLeDiff, Nat.reduceSub, ↓reduceIte, List.drop_succ_cons, List.drop_zero, List.take_succ_cons, List.take_zero, Bool.false_eq_true, List.nil_append, List.cons_append, Bool.not_true, Bool.not_false, cond_true, cond_false, bne, Q85, Q86, Q87, Q88, Q89, Q90, Q91, Q92, Q93, Q94, Q95, Q96, Q97, Q98]
 rw [loop_cong (v2 := L38 n c (ns.map iv).length ((0 : Nat) : Int)) (by rfl)]
 rcases key with ⟨h0, vs, h1, h2⟩ | ⟨h0, vs, h1, h2⟩
 ·rw [h1, h0]
  simp only [Q18, Q14, h2, Q0, Q1, Q2, Q3, Q4, Q5, Q6, Q7, Q8, Q9, Q10, Q11, Q12, Q13, Q14, Q15, Q16, Q17, Q18, Q19, Q20, Q21, Q22, Q23, Q24, Q25, Q26, Q27, Q28, Q29, Q30, Q31, Q32, Q33, Q34, Q35, Q36, Q37, Q38, Q39, Q40, Q41, Q42, Q43, Q44, Q45, Q46, Q47, Q48, Q49, Q50, Q51, Q52, Q53, Q54, Q55, Q56, Q57, Q58, Q59, Q60, Q61, Q62, Q63, Q64, Q65, Q66, Q67, Q68, Q69, Q70, Q71, Q72, Q73, AV.cl, Q74, Q75, Q76, Q77, Q78, Q79, Q80, Q81, Q82, Q83, Q84, clr, List.length_nil, List.length_cons, List.getElem?_cons_zero, List.getElem?_cons_succ, Nat.reduceAdd, Nat.zero_add, Nat.add_zero, Nat.reduceLeDiff, Nat.reduceSub, ↓reduceIte, List.drop_succ_cons, List.drop_zero, List.take_succ_cons, List.take_zero, Bool.false_eq_true, List.nil_append, List.cons_append, Bool.not_true, Bool.not_false, cond_true, cond_false, bne, Q85, Q86, Q87, Q88, Q89, Q90, Q91, Q92, Q93, Q94, Q95, Q96, Q97, Q98]
 ·rw [h1, h0, ← hrest]
  match vs, h2 with
  | [a0, a1, a2, a3, a4, a5, a6, a7, a8], _ => simp only [c81_8, Q0, Q1, Q2, Q3, Q4, Q5, Q6, Q7, Q8, Q9, Q10, Q11, Q12, Q13, Q14, Q15, Q16, Q17, Q18, Q19, Q20, Q21, Q22, Q23, Q24, Q25, Q26, Q27, Q28, Q29, Q30, Q31, Q32, Q33, Q34, Q35, Q36, Q37, Q38, Q39, Q40, Q41, Q42, Q43, Q44, Q45, Q46, Q47, Q48, Q49, Q50, Q51, Q52, Q53, Q54, Q55, Q56, Q57, Q58, Q59, Q60, Q61, Q62, Q63, Q64, Q65, Q66, Q67, Q68, Q69, Q70, Q71, Q72, Q73, AV.cl, Q74, Q75, Q76, Q77, Q78, Q79, Q80, Q81, Q82, Q83, Q84, clr, List.length_nil, List.length_cons, List.getElem?_cons_zero, List.getElem?_cons_succ, Nat.reduceAdd, Nat.zero_add, Nat.add_zero, Nat.reduceLeDiff, Nat.reduceSub, ↓reduceIte, List.drop_succ_cons, List.drop_zero, List.take_succ_cons, List.take_zero, Bool.false_eq_true, List.nil_append, List.cons_append, Bool.not_true, Bool.not_false, cond_true, cond_false, bne, Q85, Q86, Q87, Q88, Q89, Q90, Q91, Q92, Q93, Q94, Q95, Q96, Q97, Q98]

def K37 : List Bool := [false, false, false, true, false, false, true, true, true, false]
def L37 (acc c : AV) (len i : Int) : List AV := [.junk, .junk, .junk, acc, .junk, .junk, c, .v (.int .i64 len), .v (.int .i64 i), .junk]
theorem places_loop {K : Nat} {c : AV} {es : List AV} (hs : Sl 4 c es) (hm : es.length ≤ 450000) :
  ∀ (l : List Tm) (i : Nat) (acc : AV) (p : List Int) (h : List AO) (vars : List AV), i + l.length = es.length → p.length + sizeL l ≤ 1000000 → All2 (es.drop i) l → (∀ t ∈ l, ∀ (e : AV), IsT e t → ∃ r, Sl 1 r ((placesT t).map iv) ∧ callW F 80 [e] [] = some (r, [])) →
   Acc 2 1 h acc (p.map iv) → clr K37 vars = L37 acc c es.length i →
   ∃ acc' h' x4 x5 x9, loopN (exec (callW F) K c80_9) K37 (l.length + 1) vars h = some (.exit 0, [.junk, .junk, .junk, acc', x4, x5, c, .v (.int .i64 es.length), .v (.int .i64 es.length), x9], h') ∧ Acc 2 1 h' acc' ((p ++ placesL l).map iv) := by
 intro l
 induction l with
 | nil =>
  intro i acc p h vars hi hp _ _ ha hv
  have hil : i = es.length := by simpa using hi
  subst hil
  have hlt : decide ((es.length : Int) < (es.length : Int)) = false := by simp
  refine ⟨acc, h, .junk, .junk, .v (.bool false), loop_exit ?_, by simpa [placesL] using ha⟩
  rw [hv]
  simp only [L37, c80_9, c80_5, hlt, Q104, Q105, bs1, bs2, Q106, Q107, Q108, Q109, bd1, Q110, Q111, toL, List.map_cons, List.map_nil, Q112, List.set_cons_zero, List.set_cons_succ, and_self, Nat.le_refl, Q114, Q115, Q116, Q0, Q1, Q2, Q3, Q4, Q5, Q6, Q7, Q8, Q9, Q10, Q11, Q12, Q13, Q14, Q15, Q16, Q17, Q18, Q19, Q20, Q21, Q22, Q23, Q24, Q25, Q26, Q27, Q28, Q29, Q30, Q31, Q32, Q33, Q34, Q35, Q36, Q37, Q38, Q39, Q40, Q41, Q42, Q43, Q44, Q45, Q46, Q47, Q48, Q49, Q50, Q51, Q52, Q53, Q54, Q55, Q56, Q57, Q58, Q59, Q60, Q61, Q62, Q63, Q64, Q65, Q66, Q67, Q68, Q69, Q70, Q71, Q72, Q73, Q99, Q100, Q101, Q102, Q103, Q74, Q75, Q77, Q78, Q79, Q80, Q81, Q82, Q83, Q84, clr, List.length_nil, List.length_cons, List.getElem?_cons_zero, List.getElem?_cons_succ, Nat.reduceAdd, Nat.zero_add, Nat.add_zero, Nat.reduceLeDiff, Nat.reduceSub, ↓reduceIte, List.drop_succ_cons, List.drop_zero, List.take_succ_cons, List.take_zero, Bool.false_eq_true, List.nil_append, List.cons_append, Bool.not_true, Bool.not_false, cond_true, cond_false, bne, Q85, Q86, Q87, Q88, Q89, Q90, Q91, Q92, Q93, Q94, Q95, Q96, Q97, Q98]
 | cons t l ih =>
  intro i acc p h vars hi hp hes hcall ha hv
  have hil : i < es.length := by simp at hi; omega
  have he : es[i]? = some (es[i]'hil) := List.getElem?_eq_getElem _
  have hd : es.drop i = es[i] :: es.drop (i + 1) := List.drop_eq_getElem_cons hil
  rw [hd] at hes
  generalize es[i]'hil = e at hes he
  cases hes with
  | cons _ _ _ _ hT hs' =>
  obtain ⟨r, hr, hc⟩ := hcall t (by simp) _ hT
  have hpl := places_len t
  simp only [sizeL] at hp
  obtain ⟨acc', h2, h3, h4, h5⟩ := (ha.app (.box 24 e.cells)).add (x := r) (bytes := 8) (hr.elems _) (by
   have : room = 140737488355328 := rfl
   simp only [fits, List.length_map, decide_eq_true_eq]; omega)
  have hlt : (decide ((i : Int) < (es.length : Int))) = true := by simp; omega
  have q1 := hs.ia he
  have q3 : ∀ h : List AO, Q76 h true 4 (.ip e.cells) = some e := fun h => hT.load
  have q5 : ∀ h : List AO, e.snap1 h = some e := fun h => hT.snap
  have st : exec (callW F) K c80_9 (L37 acc c es.length i) h = some (.normal, [.junk, .junk, .junk, acc', .ptr h.length 0, .junk, c, .v (.int .i64 es.length), .v (.int .i64 ((i + 1 : Nat) : Int)), .v (.bool true)], h2) := by
   have hz : ([.v (.int .i64 0), .v (.string ⟨#[]⟩), .v (.int .i64 0), .v (.slice none 0 0)] : List AV).length = 4 := rfl
   simp only [L37, c80_9, c80_5, c80_6, c80_7, c80_8, hlt, wrap_succ hil (small_maxM hm), q1, q3, q5, hc, h3, hT.st _ _ hz, hT.ld, q9z, e_append, Q104, Q105, bs1, bs2, Q106, Q107, Q108, Q109, bd1, Q110, Q111, toL, List.map_cons, List.map_nil, Q112, List.set_cons_zero, List.set_cons_succ, and_self, Nat.le_refl, Q114, Q115, Q116, Q0, Q1, Q2, Q3, Q4, Q5, Q6, Q7, Q8, Q9, Q10, Q11, Q12, Q13, Q14, Q15, Q16, Q17, Q18, Q19, Q20, Q21, Q22, Q23, Q24, Q25, Q26, Q27, Q28, Q29, Q30, Q31, Q32, Q33, Q34, Q35, Q36, Q37, Q38, Q39, Q40, Q41, Q42, Q43, Q44, Q45, Q46, Q47, Q48, Q49, Q50, Q51, Q52, Q53, Q54, Q55, Q56, Q57, Q58, Q59, Q60, Q61, Q62, Q63, Q64, Q65, Q66, Q67, Q68, Q69, Q70, Q71, Q72, Q73, Q99, Q100, Q101, Q102, Q103, Q74, Q75, Q77, Q78, Q79, Q80, Q81, Q82, Q83, Q84, clr, List.length_nil, List.length_cons, List.getElem?_cons_zero, List.getElem?_cons_succ, Nat.reduceAdd, Nat.zero_add, Nat.add_zero, Nat.reduceLeDiff, Nat.reduceSub, ↓reduceIte, List.drop_succ_cons, List.drop_zero, List.take_succ_cons, List.take_zero, Bool.false_eq_true, List.nil_append, List.cons_append, Bool.not_true, Bool.not_false, cond_true, cond_false, bne, Q85, Q86, Q87, Q88, Q89, Q90, Q91, Q92, Q93, Q94, Q95, Q96, Q97, Q98]
  rw [show (t :: l).length + 1 = (l.length + 1) + 1 from rfl, loop_normal (by rw [hv]; exact st)]
  rw [← List.map_append] at h4
  obtain ⟨acc'', h', x4, x5, x9, g1, g2⟩ := ih (i + 1) acc' (p ++ placesT t) h2 [.junk, .junk, .junk, acc', .ptr h.length 0, .junk, c, .v (.int .i64 es.length), .v (.int .i64 ((i + 1 : Nat) : Int)), .v (.bool true)] (by simp at hi; omega) (by rw [List.length_append]; omega) hs' (fun t ht => hcall t (by simp [ht])) h4 rfl
  refine ⟨acc'', h', x4, x5, x9, g1, ?_⟩
  rw [placesL, ← List.append_assoc]
  exact g2

theorem places_ok : ∀ (N : Nat) (t : Tm) (a : AV), SizeOf.sizeOf t < N → size t ≤ 450000 → IsT a t → ∃ r, Sl 1 r ((placesT t).map iv) ∧ callW F 80 [a] [] = some (r, []) := by
 intro N
 induction N with
 | zero => intro t a h; omega
 | succ N ih =>
  intro t a hN hsz ha
  cases ha with
  | mk k s n c l hc =>
  have h5 := Tm.mk.sizeOf_spec k s n l
  simp only [size] at hsz
  have hll := sizeL_len l
  have hcall : ∀ t ∈ l, ∀ (e : AV), IsT e t → ∃ r, Sl 1 r ((placesT t).map iv) ∧ callW F 80 [e] [] = some (r, []) := by
   intro t ht e hT
   have h6 := List.sizeOf_lt_of_mem ht
   have h7 := size_mem ht
   exact ih t e (by omega) (by omega) hT
  obtain ⟨es, hs, hes, hm⟩ := hc.sl
  have e1 := hes.length
  have key : ∀ (p : List Int) (acc : AV) (h : List AO), p.length ≤ 10 → Acc 2 1 h acc (p.map iv) → ∃ acc' h' x4 x5 x9, loopN (exec (callW F) (l.length + 1) c80_9) K37 (l.length + 1) (L37 acc c es.length (0 : Nat)) h = some (.exit 0, [.junk, .junk, .junk, acc', x4, x5, c, .v (.int .i64 es.length), .v (.int .i64 es.length), x9], h') ∧ Acc 2 1 h' acc' ((p ++ placesL l).map iv) :=
   fun p acc h hp ha => places_loop (K := l.length + 1) hs (by omega) l 0 acc p h (L37 acc c es.length (0 : Nat)) (by omega) (by omega) (by simpa using hes) hcall ha rfl
  by_cases hk : k = 1
  ·have h1 : (k == 1) = true := by simpa using hk
   have hap : evAppend [.box 24 [.v (.int .i64 k), .v (.string s), .v (.int .i64 n), c]] 2 1 8 (.v (.slice none 0 0)) (.slc 1 true true [.v (.int .i64 n)]) = some (.own 1 1 0 0 1, [.box 24 [.v (.int .i64 k), .v (.string s), .v (.int .i64 n), c], .row 2 1 0 [.v (.int .i64 n)] 0]) := ap_new (h := [.box 24 [.v (.int .i64 k), .v (.string s), .v (.int .i64 n), c]]) (by simp) (by simp only [List.length_cons, List.length_nil]; decide)
   obtain ⟨acc', h', x4, x5, x9, g1, g2⟩ := key [n] (.own 1 1 0 0 1) [.box 24 [.v (.int .i64 k), .v (.string s), .v (.int .i64 n), c], .row 2 1 0 [.v (.int .i64 n)] 0] (by simp) (.own 1 0 0 [.v (.int .i64 n)] rfl (by simp) (by simp))
   obtain ⟨r, g3, g4⟩ := g2.lvf
   refine ⟨r, by rw [placesT, if_pos hk]; exact g4, callW_pure (c := c80) rfl rfl (l.length + 1) ?_⟩
   show lv [.var 2] (exec (callW F) (l.length + 1) (.seq (.region [] [] c80_0) (.seq (.region [] [] c80_1) (.seq (.seq (.region [] [] c80_2) (.cond (.var 5) (.region [] [] c80_3) .skip)) (.seq (.seq (.region [] [] c80_4) (.block 0 (.loop K37 [] c80_9))) (.seq (.region [] [] c80_10) .ret))))) _ _) = _
   generalize hrest : (CC.seq (.region [] [] c80_10) .ret) = rest
   simp only [c80, start, List.replicate, c80_0, c80_1, c80_2, c80_3, c80_4, h1, hs.len, hap, snap_int, bs1_some (y := .v (.int .i64 n)) (sz := 1) Q111 rfl, e_append, q9z, Q113, Q104, Q105, bs1, bs2, Q106, Q107, Q108, Q109, bd1, Q110, Q111, toL, List.map_cons, List.map_nil, Q112, List.set_cons_zero, List.set_cons_succ, and_self, Nat.le_refl, Q113, Q114, Q115, Q116, Q0, Q1, Q2, Q3, Q4, Q5, Q6, Q7, Q8, Q9, Q10, Q11, Q12, Q13, Q14, Q15, Q16, Q17, Q18, Q19, Q20, Q21, Q22, Q23, Q24, Q25, Q26, Q27, Q28, Q29, Q30, Q31, Q32, Q33, Q34, Q35, Q36, Q37, Q38, Q39, Q40, Q41, Q42, Q43, Q44, Q45, Q46, Q47, Q48, Q49, Q50, Q51, Q52, Q53, Q54, Q55, Q56, Q57, Q58, Q59, Q60, Q61, Q62, Q63, Q64, Q65, Q66, Q67, Q68, Q69, Q70, Q71, Q72, Q73, Q99, Q100, Q101, Q102, Q103, Q74, Q75, Q76, Q77, Q78, Q79, Q80, Q81, Q82, Q83, Q84, clr, List.length_nil, List.length_cons, List.getElem?_cons_zero, List.getElem?_cons_succ, Nat.reduceAdd, Nat.zero_add, Nat.add_zero, Nat.reduceLeDiff, Nat.reduceSub, ↓reduceIte, List.drop_succ_cons, List.drop_zero, List.take_succ_cons, List.take_zero, Bool.false_eq_true, List.nil_append, List.cons_append, Bool.not_true, Bool.not_false, cond_true, cond_false, bne, Q85, Q86, Q87, Q88, Q89, Q90, Q91, Q92, Q93, Q94, Q95, Q96, Q97, Q98]
   rw [loop_cong (v2 := L37 (.own 1 1 0 0 1) c es.length ((0 : Nat) : Int)) (by rfl), g1, ← hrest]
   simp only [Q19, Q12, c80_10, g3, Q0, Q1, Q2, Q3, Q4, Q5, Q6, Q7, Q8, Q9, Q10, Q11, Q12, Q13, Q14, Q15, Q16, Q17, Q18, Q19, Q20, Q21, Q22, Q23, Q24, Q25, Q26, Q27, Q28, Q29, Q30, Q31, Q32, Q33, Q34, Q35, Q36, Q37, Q38, Q39, Q40, Q41, Q42, Q43, Q44, Q45, Q46, Q47, Q48, Q49, Q50, Q51, Q52, Q53, Q54, Q55, Q56, Q57, Q58, Q59, Q60, Q61, Q62, Q63, Q64, Q65, Q66, Q67, Q68, Q69, Q70, Q71, Q72, Q73, Q99, Q100, Q101, Q102, Q103, Q74, Q75, Q77, Q78, Q79, Q80, Q81, Q82, Q83, Q84, clr, List.length_nil, List.length_cons, List.getElem?_cons_zero, List.getElem?_cons_succ, Nat.reduceAdd, Nat.zero_add, Nat.add_zero, Nat.reduceLeDiff, Nat.reduceSub, ↓reduceIte, List.drop_succ_cons, List.drop_zero, List.take_succ_cons, List.take_zero, Bool.false_eq_true, List.nil_append, List.cons_append, Bool.not_true, Bool.not_false, cond_true, cond_false, bne, Q85, Q86, Q87, Q88, Q89, Q90, Q91, Q92, Q93, Q94, Q95, Q96, Q97, Q98]
  ·have h1 : (k == 1) = false := by simpa using hk
   obtain ⟨acc', h', x4, x5, x9, g1, g2⟩ := key [] (.v (.slice none 0 0)) [.box 24 [.v (.int .i64 k), .v (.string s), .v (.int .i64 n), c]] (by simp) .nil
   obtain ⟨r, g3, g4⟩ := g2.lvf
   refine ⟨r, by rw [placesT, if_neg hk]; exact g4, callW_pure (c := c80) rfl rfl (l.length + 1) ?_⟩
   show lv [.var 2] (exec (callW F) (l.length + 1) (.seq (.region [] [] c80_0) (.seq (.region [] [] c80_1) (.seq (.seq (.region [] [] c80_2) (.cond (.var 5) (.region [] [] c80_3) .skip)) (.seq (.seq (.region [] [] c80_4) (.block 0 (.loop K37 [] c80_9))) (.seq (.region [] [] c80_10) .ret))))) _ _) = _
   generalize hrest : (CC.seq (.region [] [] c80_10) .ret) = rest
   simp only [c80, start, List.replicate, c80_0, c80_1, c80_2, c80_4, h1, hs.len, Q113, Q104, Q105, bs1, bs2, Q106, Q107, Q108, Q109, bd1, Q110, Q111, toL, List.map_cons, List.map_nil, Q112, List.set_cons_zero, List.set_cons_succ, and_self, Nat.le_refl, Q113, Q114, Q115, Q116, Q0, Q1, Q2, Q3, Q4, Q5, Q6, Q7, Q8, Q9, Q10, Q11, Q12, Q13, Q14, Q15, Q16, Q17, Q18, Q19, Q20, Q21, Q22, Q23, Q24, Q25, Q26, Q27, Q28, Q29, Q30, Q31, Q32, Q33, Q34, Q35, Q36, Q37, Q38, Q39, Q40, Q41, Q42, Q43, Q44, Q45, Q46, Q47, Q48, Q49, Q50, Q51, Q52, Q53, Q54, Q55, Q56, Q57, Q58, Q59, Q60, Q61, Q62, Q63, Q64, Q65, Q66, Q67, Q68, Q69, Q70, Q71, Q72, Q73, Q99, Q100, Q101, Q102, Q103, Q74, Q75, Q76, Q77, Q78, Q79, Q80, Q81, Q82, Q83, Q84, clr, List.length_nil, List.length_cons, List.getElem?_cons_zero, List.getElem?_cons_succ, Nat.reduceAdd, Nat.zero_add, Nat.add_zero, Nat.reduceLeDiff, Nat.reduceSub, ↓reduceIte, List.drop_succ_cons, List.drop_zero, List.take_succ_cons, List.take_zero, Bool.false_eq_true, List.nil_append, List.cons_append, Bool.not_true, Bool.not_false, cond_true, cond_false, bne, Q85, Q86, Q87, Q88, Q89, Q90, Q91, Q92, Q93, Q94, Q95, Q96, Q97, Q98]
   rw [loop_cong (v2 := L37 (.v (.slice none 0 0)) c es.length ((0 : Nat) : Int)) (by rfl), g1, ← hrest]
   simp only [Q19, Q12, c80_10, g3, Q0, Q1, Q2, Q3, Q4, Q5, Q6, Q7, Q8, Q9, Q10, Q11, Q12, Q13, Q14, Q15, Q16, Q17, Q18, Q19, Q20, Q21, Q22, Q23, Q24, Q25, Q26, Q27, Q28, Q29, Q30, Q31, Q32, Q33, Q34, Q35, Q36, Q37, Q38, Q39, Q40, Q41, Q42, Q43, Q44, Q45, Q46, Q47, Q48, Q49, Q50, Q51, Q52, Q53, Q54, Q55, Q56, Q57, Q58, Q59, Q60, Q61, Q62, Q63, Q64, Q65, Q66, Q67, Q68, Q69, Q70, Q71, Q72, Q73, Q99, Q100, Q101, Q102, Q103, Q74, Q75, Q77, Q78, Q79, Q80, Q81, Q82, Q83, Q84, clr, List.length_nil, List.length_cons, List.getElem?_cons_zero, List.getElem?_cons_succ, Nat.reduceAdd, Nat.zero_add, Nat.add_zero, Nat.reduceLeDiff, Nat.reduceSub, ↓reduceIte, List.drop_succ_cons, List.drop_zero, List.take_succ_cons, List.take_zero, Bool.false_eq_true, List.nil_append, List.cons_append, Bool.not_true, Bool.not_false, cond_true, cond_false, bne, Q85, Q86, Q87, Q88, Q89, Q90, Q91, Q92, Q93, Q94, Q95, Q96, Q97, Q98]

def addNew (p : List Int) (n : Int) : List Int := if p.contains n then p else p ++ [n]
def varsT (t : Tm) : List Int := (placesT t).foldl addNew []
def K19v : List Bool := [false, false, false, true, false, true, true, true, false, false]
def L19v (acc c : AV) (len i : Int) : List AV := [.junk, .junk, .junk, acc, .junk, c, .v (.int .i64 len), .v (.int .i64 i), .junk, .junk]
end Go.AE.YtinhjhkmpknbbaaDoor
end

section
namespace Go.AE.YtinhjhkmpknbbaaDoor
open Go Go.AE Go.Proofs.YtinhjhkmpknbbaaDoor

theorem addNew_len (p : List Int) (n : Int) : (addNew p n).length ≤ p.length + 1 := by
 simp only [addNew]; split <;> simp
theorem foldNew_len : ∀ (l p : List Int), (l.foldl addNew p).length ≤ p.length + l.length
 | [], p => by simp
 | n :: l, p => by
  have := foldNew_len l (addNew p n)
  have := addNew_len p n
  simp only [List.foldl_cons, List.length_cons]; omega
theorem vars_loop {K : Nat} {c : AV} {es : List AV} (hs : Sl 1 c es) (hm : es.length ≤ 450000) :
  ∀ (l : List Int) (i : Nat) (acc : AV) (p : List Int) (h : List AO) (vars : List AV), i + l.length = es.length → p.length ≤ i → es.drop i = l.map iv →
   Acc 2 1 h acc (p.map iv) → clr K19v vars = L19v acc c es.length i →
   ∃ acc' h' x4 x8 x9, loopN (exec (callW F) K c52_8) K19v (l.length + 1) vars h = some (.exit 0, [.junk, .junk, .junk, acc', x4, c, .v (.int .i64 es.length), .v (.int .i64 es.length), x8, x9], h') ∧ Acc 2 1 h' acc' ((l.foldl addNew p).map iv) := by
 intro l
 induction l with
 | nil =>
  intro i acc p h vars hi hp _ ha hv
  have hil : i = es.length := by simpa using hi
  subst hil
  have hlt : decide ((es.length : Int) < (es.length : Int)) = false := by simp
  refine ⟨acc, h, .junk, .v (.bool false), .junk, loop_exit ?_, ha⟩
  rw [hv]
  simp only [L19v, c52_8, c52_3, hlt, Q104, Q105, bs1, bs2, Q106, Q107, Q108, Q109, bd1, Q110, Q111, toL, List.map_cons, List.map_nil, Q112, List.set_cons_zero, List.set_cons_succ, and_self, Nat.le_refl, Q114, Q115, Q116, Q0, Q1, Q2, Q3, Q4, Q5, Q6, Q7, Q8, Q9, Q10, Q11, Q12, Q13, Q14, Q15, Q16, Q17, Q18, Q19, Q20, Q21, Q22, Q23, Q24, Q25, Q26, Q27, Q28, Q29, Q30, Q31, Q32, Q33, Q34, Q35, Q36, Q37, Q38, Q39, Q40, Q41, Q42, Q43, Q44, Q45, Q46, Q47, Q48, Q49, Q50, Q51, Q52, Q53, Q54, Q55, Q56, Q57, Q58, Q59, Q60, Q61, Q62, Q63, Q64, Q65, Q66, Q67, Q68, Q69, Q70, Q71, Q72, Q73, Q99, Q100, Q101, Q102, Q103, Q74, Q75, Q77, Q78, Q79, Q80, Q81, Q82, Q83, Q84, clr, List.length_nil, List.length_cons, List.getElem?_cons_zero, List.getElem?_cons_succ, Nat.reduceAdd, Nat.zero_add, Nat.add_zero, Nat.reduceLeDiff, Nat.reduceSub, ↓reduceIte, List.drop_succ_cons, List.drop_zero, List.take_succ_cons, List.take_zero, Bool.false_eq_true, List.nil_append, List.cons_append, Bool.not_true, Bool.not_false, cond_true, cond_false, bne, Q85, Q86, Q87, Q88, Q89, Q90, Q91, Q92, Q93, Q94, Q95, Q96, Q97, Q98]
 | cons n l ih =>
  intro i acc p h vars hi hp hes ha hv
  have hil : i < es.length := by simp at hi; omega
  have he : es[i]? = some (iv n) := by
   have : (es.drop i)[0]? = some (iv n) := by rw [hes]; rfl
   simpa using this
  have hd : es.drop (i + 1) = l.map iv := by
   have h2 := congrArg List.tail hes
   simpa using h2
  have hlt : (decide ((i : Int) < (es.length : Int))) = true := by simp; omega
  have q1 := hs.ia he
  obtain ⟨f1, f2, c', f3, f4⟩ := ha.fix
  have hc := has_ok f4 (by omega) n
  have hcf : cf (callW F) 81 h [acc, .v (.int .i64 n)] = some (.v (.bool (p.contains n)), raise1 h acc) := by
   refine cf_of (vs := [c', .v (.int .i64 n)]) rfl ?_ hc
   show ([acc, AV.v (.int .i64 n)] : List AV).mapM (AV.snap1 (raise1 h acc)) = _
   simp [f3, snap_int]
  have hmax : es.length ≤ maxLen := small_maxM hm
  rw [show (n :: l).length + 1 = (l.length + 1) + 1 from rfl, List.foldl_cons]
  have q3 : ∀ h, Q76 h false 1 (.ip [.v (.int .i64 n)]) = some (.v (.int .i64 n)) := fun _ => rfl
  cases hh : p.contains n with
  | true =>
   rw [hh] at hcf
   have st : exec (callW F) K c52_8 (L19v acc c es.length i) h = some (.normal, [.junk, .junk, .junk, acc, .v (.int .i64 n), c, .v (.int .i64 es.length), .v (.int .i64 ((i + 1 : Nat) : Int)), .v (.bool true), .v (.bool false)], raise1 h acc) := by
    simp only [L19v, iv, AV.cells, c52_8, c52_3, c52_4, c52_5, c52_7, hlt, wrap_succ hil hmax, q1, q3, hcf, e_callf, List.map_cons, List.map_nil, snap_int, Q104, Q105, bs1, bs2, Q106, Q107, Q108, Q109, bd1, Q110, Q111, toL, List.map_cons, List.map_nil, Q112, List.set_cons_zero, List.set_cons_succ, and_self, Nat.le_refl, Q114, Q115, Q116, Q0, Q1, Q2, Q3, Q4, Q5, Q6, Q7, Q8, Q9, Q10, Q11, Q12, Q13, Q14, Q15, Q16, Q17, Q18, Q19, Q20, Q21, Q22, Q23, Q24, Q25, Q26, Q27, Q28, Q29, Q30, Q31, Q32, Q33, Q34, Q35, Q36, Q37, Q38, Q39, Q40, Q41, Q42, Q43, Q44, Q45, Q46, Q47, Q48, Q49, Q50, Q51, Q52, Q53, Q54, Q55, Q56, Q57, Q58, Q59, Q60, Q61, Q62, Q63, Q64, Q65, Q66, Q67, Q68, Q69, Q70, Q71, Q72, Q73, Q99, Q100, Q101, Q102, Q103, Q74, Q75, Q77, Q78, Q79, Q80, Q81, Q82, Q83, Q84, clr, List.length_nil, List.length_cons, List.getElem?_cons_zero, List.getElem?_cons_succ, Nat.reduceAdd, Nat.zero_add, Nat.add_zero, Nat.reduceLeDiff, Nat.reduceSub, ↓reduceIte, List.drop_succ_cons, List.drop_zero, List.take_succ_cons, List.take_zero, Bool.false_eq_true, List.nil_append, List.cons_append, Bool.not_true, Bool.not_false, cond_true, cond_false, bne, Q85, Q86, Q87, Q88, Q89, Q90, Q91, Q92, Q93, Q94, Q95, Q96, Q97, Q98]
   rw [loop_normal (by rw [hv]; exact st)]
   have e : addNew p n = p := by simp only [addNew, hh, if_true]
   rw [e]
   exact ih (i + 1) acc p _ _ (by simp at hi; omega) (by omega) hd f1 rfl
  | false =>
   rw [hh] at hcf
   obtain ⟨acc', h2, h3, h4, h5⟩ := f1.add (x := .slc 1 true true [.v (.int .i64 n)]) (ys := [.v (.int .i64 n)]) (bytes := 8) elems_one (by
    have : room = 140737488355328 := rfl
    simp only [fits, List.length_map, List.length_cons, List.length_nil, decide_eq_true_eq]; omega)
   have st : exec (callW F) K c52_8 (L19v acc c es.length i) h = some (.normal, [.junk, .junk, .junk, acc', .v (.int .i64 n), c, .v (.int .i64 es.length), .v (.int .i64 ((i + 1 : Nat) : Int)), .v (.bool true), .v (.bool true)], h2) := by
    simp only [L19v, iv, AV.cells, c52_8, c52_3, c52_4, c52_5, c52_6, c52_7, hlt, wrap_succ hil hmax, q1, q3, hcf, e_callf, List.map_cons, List.map_nil, h3, snap_int, e_append, bs1_some (y := .v (.int .i64 n)) (sz := 1) Q111 rfl, Q104, Q105, bs1, bs2, Q106, Q107, Q108, Q109, bd1, Q110, Q111, toL, List.map_cons, List.map_nil, Q112, List.set_cons_zero, List.set_cons_succ, and_self, Nat.le_refl, Q114, Q115, Q116, Q0, Q1, Q2, Q3, Q4, Q5, Q6, Q7, Q8, Q9, Q10, Q11, Q12, Q13, Q14, Q15, Q16, Q17, Q18, Q19, Q20, Q21, Q22, Q23, Q24, Q25, Q26, Q27, Q28, Q29, Q30, Q31, Q32, Q33, Q34, Q35, Q36, Q37, Q38, Q39, Q40, Q41, Q42, Q43, Q44, Q45, Q46, Q47, Q48, Q49, Q50, Q51, Q52, Q53, Q54, Q55, Q56, Q57, Q58, Q59, Q60, Q61, Q62, Q63, Q64, Q65, Q66, Q67, Q68, Q69, Q70, Q71, Q72, Q73, Q99, Q100, Q101, Q102, Q103, Q74, Q75, Q77, Q78, Q79, Q80, Q81, Q82, Q83, Q84, clr, List.length_nil, List.length_cons, List.getElem?_cons_zero, List.getElem?_cons_succ, Nat.reduceAdd, Nat.zero_add, Nat.add_zero, Nat.reduceLeDiff, Nat.reduceSub, ↓reduceIte, List.drop_succ_cons, List.drop_zero, List.take_succ_cons, List.take_zero, Bool.false_eq_true, List.nil_append, List.cons_append, Bool.not_true, Bool.not_false, cond_true, cond_false, bne, Q85, Q86, Q87, Q88, Q89, Q90, Q91, Q92, Q93, Q94, Q95, Q96, Q97, Q98]
   rw [loop_normal (by rw [hv]; exact st)]
   have e : addNew p n = p ++ [n] := by simp only [addNew, hh]; rfl
   rw [e]
   have h4' : Acc 2 1 h2 acc' ((p ++ [n]).map iv) := by rw [List.map_append]; exact h4
   exact ih (i + 1) acc' (p ++ [n]) h2 _ (by simp at hi; omega) (by simp; omega) hd h4' rfl
theorem vars_ok {t : Tm} {a : AV} (hsz : size t ≤ 450000) (ha : IsT a t) : ∃ r, Sl 1 r ((varsT t).map iv) ∧ callW F 52 [a] [] = some (r, []) := by
 obtain ⟨c, hs, hc⟩ := places_ok _ t a (Nat.lt_succ_self _) hsz ha
 have hpl := places_len t
 have hlen : ((placesT t).map iv).length = (placesT t).length := by simp
 obtain ⟨acc', h', x4, x8, x9, g1, g2⟩ := vars_loop (K := (placesT t).length + 1) hs (by omega) (placesT t) 0 (.v (.slice none 0 0)) [] [.box 24 a.cells] (L19v (.v (.slice none 0 0)) c ((placesT t).map iv).length (0 : Nat)) (by simp) (by simp) (by simp) .nil rfl
 obtain ⟨r, g3, g4⟩ := g2.lvf
 refine ⟨r, g4, callW_pure (c := c52) rfl rfl ((placesT t).length + 1) ?_⟩
 have q5 : ∀ h : List AO, a.snap1 h = some a := fun h => ha.snap
 show lv [.var 2] (exec (callW F) ((placesT t).length + 1) (.seq (.region [] [] c52_0) (.seq (.region [] [] c52_1) (.seq (.seq (.region [] [] c52_2) (.block 0 (.loop K19v [] c52_8))) (.seq (.region [] [] c52_9) .ret)))) _ _) = _
 generalize hrest : (CC.seq (.region [] [] c52_9) .ret) = rest
 generalize (placesT t).map iv = qs at hs g1
 cases ha
 simp only [AV.cells] at g1
 simp only [c52, start, List.replicate, c52_0, c52_1, c52_2, hc, q5, hs.len, Q104, Q105, bs1, bs2, Q106, Q107, Q108, Q109, bd1, Q110, Q111, toL, List.map_cons, List.map_nil, Q112, List.set_cons_zero, List.set_cons_succ, and_self, Nat.le_refl, Q113, Q114, Q115, Q116, Q0, Q1, Q2, Q3, Q4, Q5, Q6, Q7, Q8, Q9, Q10, Q11, Q12, Q13, Q14, Q15, Q16, Q17, Q18, Q19, Q20, Q21, Q22, Q23, Q24, Q25, Q26, Q27, Q28, Q29, Q30, Q31, Q32, Q33, Q34, Q35, Q36, Q37, Q38, Q39, Q40, Q41, Q42, Q43, Q44, Q45, Q46, Q47, Q48, Q49, Q50, Q51, Q52, Q53, Q54, Q55, Q56, Q57, Q58, Q59, Q60, Q61, Q62, Q63, Q64, Q65, Q66, Q67, Q68, Q69, Q70, Q71, Q72, Q73, Q99, Q100, Q101, Q102, Q103, Q74, Q75, Q76, Q77, Q78, Q79, Q80, Q81, Q82, Q83, Q84, clr, List.length_nil, List.length_cons, List.getElem?_cons_zero, List.getElem?_cons_succ, Nat.reduceAdd, Nat.zero_add, Nat.add_zero, Nat.reduceLeDiff, Nat.reduceSub, ↓reduceIte, List.drop_succ_cons, List.drop_zero, List.take_succ_cons, List.take_zero, Bool.false_eq_true, List.nil_append, List.cons_append, Bool.not_true, Bool.not_false, cond_true, cond_false, bne, Q85, Q86, Q87, Q88, Q89, Q90, Q91, Q92, Q93, Q94, Q95, Q96, Q97, Q98]
 rw [loop_cong (v2 := L19v (.v (.slice none 0 0)) c qs.length ((0 : Nat) : Int)) (by rfl), g1, ← hrest]
 simp only [Q19, Q12, c52_9, g3, Q0, Q1, Q2, Q3, Q4, Q5, Q6, Q7, Q8, Q9, Q10, Q11, Q12, Q13, Q14, Q15, Q16, Q17, Q18, Q19, Q20, Q21, Q22, Q23, Q24, Q25, Q26, Q27, Q28, Q29, Q30, Q31, Q32, Q33, Q34, Q35, Q36, Q37, Q38, Q39, Q40, Q41, Q42, Q43, Q44, Q45, Q46, Q47, Q48, Q49, Q50, Q51, Q52, Q53, Q54, Q55, Q56, Q57, Q58, Q59, Q60, Q61, Q62, Q63, Q64, Q65, Q66, Q67, Q68, Q69, Q70, Q71, Q72, Q73, Q99, Q100, Q101, Q102, Q103, Q74, Q75, Q77, Q78, Q79, Q80, Q81, Q82, Q83, Q84, clr, List.length_nil, List.length_cons, List.getElem?_cons_zero, List.getElem?_cons_succ, Nat.reduceAdd, Nat.zero_add, Nat.add_zero, Nat.reduceLeDiff, Nat.reduceSub, ↓reduceIte, List.drop_succ_cons, List.drop_zero, List.take_succ_cons, List.take_zero, Bool.false_eq_true, List.nil_append, List.cons_append, Bool.not_true, Bool.not_false, cond_true, cond_false, bne, Q85, Q86, Q87, Q88, Q89, Q90, Q91, Q92, Q93, Q94, Q95, Q96, Q97, Q98]

def K82 : List Bool := [false, true, false, false, false, true, true, true, false, false]
def L82 (n : Int) (c : AV) (len i : Int) : List AV := [.junk, .v (.int .i64 n), .junk, .junk, .junk, c, .v (.int .i64 len), .v (.int .i64 i), .junk, .junk]
theorem place_loop {K : Nat} {c : AV} {es : List AV} (hs : Sl 1 c es) (hm : es.length ≤ 1000000) (n : Int) :
  ∀ (l : List Int) (i : Nat) (h : List AO) (vars : List AV), i + l.length = es.length → es.drop i = l.map iv → clr K82 vars = L82 n c es.length i →
   (n ∈ l ∧ ∃ vs, loopN (exec (callW F) K c82_7) K82 (l.length + 1) vars h = some (.ret, vs, h) ∧ getO vs [] (.var 2) = .v (.int .i64 ((i + plcT l n : Nat) : Int))) ∨ (¬ n ∈ l ∧ ∃ vs, loopN (exec (callW F) K c82_7) K82 (l.length + 1) vars h = some (.exit 0, vs, h) ∧ vs.length = 10) := by
 intro l
 induction l with
 | nil =>
  intro i h vars hi _ hv
  have hil : i = es.length := by simpa using hi
  subst hil
  have hlt : decide ((es.length : Int) < (es.length : Int)) = false := by simp
  refine .inr ⟨by simp, [.junk, .v (.int .i64 n), .junk, .junk, .junk, c, .v (.int .i64 es.length), .v (.int .i64 es.length), .v (.bool false), .junk], loop_exit ?_, rfl⟩
  rw [hv]
  simp only [L82, c82_7, c82_2, hlt, Q104, Q105, bs1, bs2, Q106, Q107, Q108, Q109, bd1, Q110, Q111, toL, List.map_cons, List.map_nil, Q112, List.set_cons_zero, List.set_cons_succ, and_self, Nat.le_refl, Q114, Q115, Q116, Q0, Q1, Q2, Q3, Q4, Q5, Q6, Q7, Q8, Q9, Q10, Q11, Q12, Q13, Q14, Q15, Q16, Q17, Q18, Q19, Q20, Q21, Q22, Q23, Q24, Q25, Q26, Q27, Q28, Q29, Q30, Q31, Q32, Q33, Q34, Q35, Q36, Q37, Q38, Q39, Q40, Q41, Q42, Q43, Q44, Q45, Q46, Q47, Q48, Q49, Q50, Q51, Q52, Q53, Q54, Q55, Q56, Q57, Q58, Q59, Q60, Q61, Q62, Q63, Q64, Q65, Q66, Q67, Q68, Q69, Q70, Q71, Q72, Q73, AV.cl, Q74, Q75, Q76, Q77, Q78, Q79, Q80, Q81, Q82, Q83, Q84, clr, List.length_nil, List.length_cons, List.getElem?_cons_zero, List.getElem?_cons_succ, Nat.reduceAdd, Nat.zero_add, Nat.add_zero, Nat.reduceLeDiff, Nat.reduceSub, ↓reduceIte, List.drop_succ_cons, List.drop_zero, List.take_succ_cons, List.take_zero, Bool.false_eq_true, List.nil_append, List.cons_append, Bool.not_true, Bool.not_false, cond_true, cond_false, bne, Q85, Q86, Q87, Q88, Q89, Q90, Q91, Q92, Q93, Q94, Q95, Q96, Q97, Q98]
 | cons k l ih =>
  intro i h vars hi hes hv
  have hil : i < es.length := by simp at hi; omega
  have he : es[i]? = some (iv k) := by
   have : (es.drop i)[0]? = some (iv k) := by rw [hes]; rfl
   simpa using this
  have hd : es.drop (i + 1) = l.map iv := by
   have h2 := congrArg List.tail hes
   simpa using h2
  have hlt : (decide ((i : Int) < (es.length : Int))) = true := by simp; omega
  have q1 := hs.ia he
  by_cases hk : k = n
  ·left
   subst hk
   have he : ((k == k) : Bool) = true := by simp
   have hw : IntKind.i64.wrap (i : Int) = (i : Int) := wrap_ok (by omega) (by omega)
   refine ⟨by simp, [.junk, .v (.int .i64 k), .v (.int .i64 i), .v (.int .i64 i), .v (.int .i64 k), c, .v (.int .i64 es.length), .v (.int .i64 i), .v (.bool true), .v (.bool true)], loop_ret ?_, by simp [getO, plcT]⟩
   rw [hv]
   simp only [L82, iv, AV.cells, c82_7, c82_2, c82_3, c82_4, c82_5, hlt, he, hw, q1, Q104, Q105, bs1, bs2, Q106, Q107, Q108, Q109, bd1, Q110, Q111, toL, List.map_cons, List.map_nil, Q112, List.set_cons_zero, List.set_cons_succ, and_self, Nat.le_refl, Q114, Q115, Q116, Q0, Q1, Q2, Q3, Q4, Q5, Q6, Q7, Q8, Q9, Q10, Q11, Q12, Q13, Q14, Q15, Q16, Q17, Q18, Q19, Q20, Q21, Q22, Q23, Q24, Q25, Q26, Q27, Q28, Q29, Q30, Q31, Q32, Q33, Q34, Q35, Q36, Q37, Q38, Q39, Q40, Q41, Q42, Q43, Q44, Q45, Q46, Q47, Q48, Q49, Q50, Q51, Q52, Q53, Q54, Q55, Q56, Q57, Q58, Q59, Q60, Q61, Q62, Q63, Q64, Q65, Q66, Q67, Q68, Q69, Q70, Q71, Q72, Q73, AV.cl, Q74, Q75, Q76, Q77, Q78, Q79, Q80, Q81, Q82, Q83, Q84, clr, List.length_nil, List.length_cons, List.getElem?_cons_zero, List.getElem?_cons_succ, Nat.reduceAdd, Nat.zero_add, Nat.add_zero, Nat.reduceLeDiff, Nat.reduceSub, ↓reduceIte, List.drop_succ_cons, List.drop_zero, List.take_succ_cons, List.take_zero, Bool.false_eq_true, List.nil_append, List.cons_append, Bool.not_true, Bool.not_false, cond_true, cond_false, bne, Q85, Q86, Q87, Q88, Q89, Q90, Q91, Q92, Q93, Q94, Q95, Q96, Q97, Q98]
  ·have he : ((k == n) : Bool) = false := by simpa using hk
   have st : exec (callW F) K c82_7 (L82 n c es.length i) h = some (.normal, [.junk, .v (.int .i64 n), .junk, .v (.int .i64 i), .v (.int .i64 k), c, .v (.int .i64 es.length), .v (.int .i64 ((i + 1 : Nat) : Int)), .v (.bool true), .v (.bool false)], h) := by
    have : maxLen = 9223372036854775807 := rfl
    simp only [L82, iv, AV.cells, c82_7, c82_2, c82_3, c82_4, c82_6, hlt, he, wrap_succ hil (by omega), q1, Q104, Q105, bs1, bs2, Q106, Q107, Q108, Q109, bd1, Q110, Q111, toL, List.map_cons, List.map_nil, Q112, List.set_cons_zero, List.set_cons_succ, and_self, Nat.le_refl, Q114, Q115, Q116, Q0, Q1, Q2, Q3, Q4, Q5, Q6, Q7, Q8, Q9, Q10, Q11, Q12, Q13, Q14, Q15, Q16, Q17, Q18, Q19, Q20, Q21, Q22, Q23, Q24, Q25, Q26, Q27, Q28, Q29, Q30, Q31, Q32, Q33, Q34, Q35, Q36, Q37, Q38, Q39, Q40, Q41, Q42, Q43, Q44, Q45, Q46, Q47, Q48, Q49, Q50, Q51, Q52, Q53, Q54, Q55, Q56, Q57, Q58, Q59, Q60, Q61, Q62, Q63, Q64, Q65, Q66, Q67, Q68, Q69, Q70, Q71, Q72, Q73, AV.cl, Q74, Q75, Q76, Q77, Q78, Q79, Q80, Q81, Q82, Q83, Q84, clr, List.length_nil, List.length_cons, List.getElem?_cons_zero, List.getElem?_cons_succ, Nat.reduceAdd, Nat.zero_add, Nat.add_zero, Nat.reduceLeDiff, Nat.reduceSub, ↓reduceIte, List.drop_succ_cons, List.drop_zero, List.take_succ_cons, List.take_zero, Bool.false_eq_true, List.nil_append, List.cons_append, Bool.not_true, Bool.not_false, cond_true, cond_false, bne, Q85, Q86, Q87, Q88, Q89, Q90, Q91, Q92, Q93, Q94, Q95, Q96, Q97, Q98]
   rw [show (k :: l).length + 1 = (l.length + 1) + 1 from rfl, loop_normal (by rw [hv]; exact st)]
   rcases ih (i + 1) h [.junk, .v (.int .i64 n), .junk, .v (.int .i64 i), .v (.int .i64 k), c, .v (.int .i64 es.length), .v (.int .i64 ((i + 1 : Nat) : Int)), .v (.bool true), .v (.bool false)] (by simp at hi; omega) hd rfl with ⟨h1, vs, h2, h3⟩ | ⟨h1, vs, h2, h3⟩
   ·refine .inl ⟨by simp [h1], vs, h2, ?_⟩
    rw [h3, plcT, if_neg hk, if_pos h1]
    congr 3; omega
   ·refine .inr ⟨?_, vs, h2, h3⟩
    rw [List.mem_cons]
    rintro (rfl | h)
    ·exact hk rfl
    ·exact h1 h
theorem plc_no : ∀ {l : List Int} {n : Int}, ¬ n ∈ l → plcT l n = 0
 | [], n, _ => rfl
 | k :: l, n, h => by
  rw [plcT, if_neg (fun e => h (by simp [e])), if_neg (fun e => h (by simp [e]))]
theorem place_ok {c : AV} {ns : List Int} (hs : Sl 1 c (ns.map iv)) (hm : ns.length ≤ 450000) (n : Int) : callW F 82 [c, .v (.int .i64 n)] [] = some (.v (.int .i64 (plcT ns n)), []) := by
 refine callW_pure (c := c82) rfl rfl (ns.length + 1) ?_
 have key := place_loop (K := ns.length + 1) hs (by simp; omega) n ns 0 [] (L82 n c (ns.map iv).length (0 : Nat)) (by simp) rfl rfl
 show lv [.var 2] (exec (callW F) (ns.length + 1) (.seq (.region [] [] c82_0) (.seq (.seq (.region [] [] c82_1) (.block 0 (.loop K82 [] c82_7))) (.seq (.region [] [] c82_8) .ret))) _ _) = _
 generalize hrest : (CC.seq (.region [] [] c82_8) .ret) = rest
 simp only [c82, start, List.replicate, c82_0, c82_1, hs.len, Q104, Q105, bs1, bs2, Q106, Q107, Q108, Q109, bd1, Q110, Q111, toL, List.map_cons, List.map_nil, Q112, List.set_cons_zero, List.set_cons_succ, and_self, Nat.le_refl, Q114, Q115, Q116, Q0, Q1, Q2, Q3, Q4, Q5, Q6, Q7, Q8, Q9, Q10, Q11, Q12, Q13, Q14, Q15, Q16, Q17, Q18, Q19, Q20, Q21, Q22, Q23, Q24, Q25, Q26, Q27, Q28, Q29, Q30, Q31, Q32, Q33, Q34, Q35, Q36, Q37, Q38, Q39, Q40, Q41, Q42, Q43, Q44, Q45, Q46, Q47, Q48, Q49, Q50, Q51, Q52, Q53, Q54, Q55, Q56, Q57, Q58, Q59, Q60, Q61, Q62, Q63, Q64, Q65, Q66, Q67, Q68, Q69, Q70, Q71, Q72, Q73, AV.cl, Q74, Q75, Q76, Q77, Q78, Q79, Q80, Q81, Q82, Q83, Q84, clr, List.length_nil, List.length_cons, List.getElem?_cons_zero, List.getElem?_cons_succ, Nat.reduceAdd, Nat.zero_add, Nat.add_zero, Nat.reduceLeDiff, Nat.reduceSub, ↓reduceIte, List.drop_succ_cons, List.drop_zero, List.take_succ_cons, List.take_zero, Bool.false_eq_true, List.nil_append, List.cons_append, Bool.not_true, Bool.not_false, cond_true, cond_false, bne, Q85, Q86, Q87, Q88, Q89, Q90, Q91, Q92, Q93, Q94, Q95, Q96, Q97, Q98]
 rw [loop_cong (v2 := L82 n c (ns.map iv).length ((0 : Nat) : Int)) (by rfl)]
 rcases key with ⟨h0, vs, h1, h2⟩ | ⟨h0, vs, h1, h2⟩
 ·rw [h1]
  rw [Nat.zero_add] at h2
  simp only [Q18, Q14, h2, Q0, Q1, Q2, Q3, Q4, Q5, Q6, Q7, Q8, Q9, Q10, Q11, Q12, Q13, Q14, Q15, Q16, Q17, Q18, Q19, Q20, Q21, Q22, Q23, Q24, Q25, Q26, Q27, Q28, Q29, Q30, Q31, Q32, Q33, Q34, Q35, Q36, Q37, Q38, Q39, Q40, Q41, Q42, Q43, Q44, Q45, Q46, Q47, Q48, Q49, Q50, Q51, Q52, Q53, Q54, Q55, Q56, Q57, Q58, Q59, Q60, Q61, Q62, Q63, Q64, Q65, Q66, Q67, Q68, Q69, Q70, Q71, Q72, Q73, AV.cl, Q74, Q75, Q76, Q77, Q78, Q79, Q80, Q81, Q82, Q83, Q84, clr, List.length_nil, List.length_cons, List.getElem?_cons_zero, List.getElem?_cons_succ, Nat.reduceAdd, Nat.zero_add, Nat.add_zero, Nat.reduceLeDiff, Nat.reduceSub, ↓reduceIte, List.drop_succ_cons, List.drop_zero, List.take_succ_cons, List.take_zero, Bool.false_eq_true, List.nil_append, List.cons_append, Bool.not_true, Bool.not_false, cond_true, cond_false, bne, Q85, Q86, Q87, Q88, Q89, Q90, Q91, Q92, Q93, Q94, Q95, Q96, Q97, Q98]
 ·rw [h1, plc_no h0, ← hrest]
  match vs, h2 with
  | [a0, a1, a2, a3, a4, a5, a6, a7, a8, a9], _ => simp only [c82_8, Q0, Q1, Q2, Q3, Q4, Q5, Q6, Q7, Q8, Q9, Q10, Q11, Q12, Q13, Q14, Q15, Q16, Q17, Q18, Q19, Q20, Q21, Q22, Q23, Q24, Q25, Q26, Q27, Q28, Q29, Q30, Q31, Q32, Q33, Q34, Q35, Q36, Q37, Q38, Q39, Q40, Q41, Q42, Q43, Q44, Q45, Q46, Q47, Q48, Q49, Q50, Q51, Q52, Q53, Q54, Q55, Q56, Q57, Q58, Q59, Q60, Q61, Q62, Q63, Q64, Q65, Q66, Q67, Q68, Q69, Q70, Q71, Q72, Q73, AV.cl, Q74, Q75, Q76, Q77, Q78, Q79, Q80, Q81, Q82, Q83, Q84, clr, List.length_nil, List.length_cons, List.getElem?_cons_zero, List.getElem?_cons_succ, Nat.reduceAdd, Nat.zero_add, Nat.add_zero, Nat.reduceLeDiff, Nat.reduceSub, ↓reduceIte, List.drop_succ_cons, List.drop_zero, List.take_succ_cons, List.take_zero, Bool.false_eq_true, List.nil_append, List.cons_append, Bool.not_true, Bool.not_false, cond_true, cond_false, bne, Q85, Q86, Q87, Q88, Q89, Q90, Q91, Q92, Q93, Q94, Q95, Q96, Q97, Q98]; rfl
theorem var1_ok (n : Int) : callW F 15 [.v (.int .i64 n)] [] = some (.agg [.v (.int .i64 1), .v (.string nos), .v (.int .i64 n), .v (.slice none 0 0)], []) := by
 refine callW_pure (c := c15) rfl rfl 0 ?_
 simp only [c15, start, List.replicate, c15_0, c15_1, q9z, Q113, Q104, Q105, bs1, bs2, Q106, Q107, Q108, Q109, bd1, Q110, Q111, toL, List.map_cons, List.map_nil, Q112, List.set_cons_zero, List.set_cons_succ, and_self, Nat.le_refl, Q113, Q114, Q115, Q116, Q0, Q1, Q2, Q3, Q4, Q5, Q6, Q7, Q8, Q9, Q10, Q11, Q12, Q13, Q14, Q15, Q16, Q17, Q18, Q19, Q20, Q21, Q22, Q23, Q24, Q25, Q26, Q27, Q28, Q29, Q30, Q31, Q32, Q33, Q34, Q35, Q36, Q37, Q38, Q39, Q40, Q41, Q42, Q43, Q44, Q45, Q46, Q47, Q48, Q49, Q50, Q51, Q52, Q53, Q54, Q55, Q56, Q57, Q58, Q59, Q60, Q61, Q62, Q63, Q64, Q65, Q66, Q67, Q68, Q69, Q70, Q71, Q72, Q73, Q99, Q100, Q101, Q102, Q103, Q74, Q75, Q76, Q77, Q78, Q79, Q80, Q81, Q82, Q83, Q84, clr, List.length_nil, List.length_cons, List.getElem?_cons_zero, List.getElem?_cons_succ, Nat.reduceAdd, Nat.zero_add, Nat.add_zero, Nat.reduceLeDiff, Nat.reduceSub, ↓reduceIte, List.drop_succ_cons, List.drop_zero, List.take_succ_cons, List.take_zero, Bool.false_eq_true, List.nil_append, List.cons_append, Bool.not_true, Bool.not_false, cond_true, cond_false, bne, Q85, Q86, Q87, Q88, Q89, Q90, Q91, Q92, Q93, Q94, Q95, Q96, Q97, Q98]
 rfl

def K53 : List Bool := [false, true, true, true, true, false, false, true, true, true, false]
def L53 (q acc c : AV) (len i : Int) : List AV := [.junk, q, .ptr 0 0, .ptr 1 0, acc, .junk, .junk, c, .v (.int .i64 len), .v (.int .i64 i), .junk]

theorem num_loop {K : Nat} {c : AV} {es : List AV} (hs : Sl 4 c es) (hm : es.length ≤ 450000) {q : AV} {vs : List Int} (hq : Sl 1 q (vs.map iv)) :
  ∀ (l : List Tm) (i : Nat) (acc : AV) (ds : List AV) (dl : List Tm) (h : List AO) (vars : List AV), i + l.length = es.length → ds.length = i → All2 (es.drop i) l → All2 ds dl → (∀ t ∈ l, ∀ (e : AV), IsT e t → ∃ r, IsT r (numT vs t) ∧ callW F 53 [e, q] [] = some (r, [])) →
   Acc 24 4 h acc ds → clr K53 vars = L53 q acc c es.length i →
   ∃ acc' ds' h' x5 x6 x10, loopN (exec (callW F) K c53_9) K53 (l.length + 1) vars h = some (.exit 0, [.junk, q, .ptr 0 0, .ptr 1 0, acc', x5, x6, c, .v (.int .i64 es.length), .v (.int .i64 es.length), x10], h') ∧ Acc 24 4 h' acc' ds' ∧ All2 ds' (dl ++ numL vs l) ∧ ds'.length = es.length ∧ Keeps h h' := by
 intro l
 induction l with
 | nil =>
  intro i acc ds dl h vars hi hds _ hall _ ha hv
  have hil : i = es.length := by simpa using hi
  subst hil
  have hlt : decide ((es.length : Int) < (es.length : Int)) = false := by simp
  refine ⟨acc, ds, h, .junk, .junk, .v (.bool false), loop_exit ?_, ha, by simpa [numL] using hall, hds, .refl h⟩
  rw [hv]
  simp only [L53, c53_9, c53_5, hlt, Q104, Q105, bs1, bs2, Q106, Q107, Q108, Q109, bd1, Q110, Q111, toL, List.map_cons, List.map_nil, Q112, List.set_cons_zero, List.set_cons_succ, and_self, Nat.le_refl, Q114, Q115, Q116, Q0, Q1, Q2, Q3, Q4, Q5, Q6, Q7, Q8, Q9, Q10, Q11, Q12, Q13, Q14, Q15, Q16, Q17, Q18, Q19, Q20, Q21, Q22, Q23, Q24, Q25, Q26, Q27, Q28, Q29, Q30, Q31, Q32, Q33, Q34, Q35, Q36, Q37, Q38, Q39, Q40, Q41, Q42, Q43, Q44, Q45, Q46, Q47, Q48, Q49, Q50, Q51, Q52, Q53, Q54, Q55, Q56, Q57, Q58, Q59, Q60, Q61, Q62, Q63, Q64, Q65, Q66, Q67, Q68, Q69, Q70, Q71, Q72, Q73, Q99, Q100, Q101, Q102, Q103, Q74, Q75, Q77, Q78, Q79, Q80, Q81, Q82, Q83, Q84, clr, List.length_nil, List.length_cons, List.getElem?_cons_zero, List.getElem?_cons_succ, Nat.reduceAdd, Nat.zero_add, Nat.add_zero, Nat.reduceLeDiff, Nat.reduceSub, ↓reduceIte, List.drop_succ_cons, List.drop_zero, List.take_succ_cons, List.take_zero, Bool.false_eq_true, List.nil_append, List.cons_append, Bool.not_true, Bool.not_false, cond_true, cond_false, bne, Q85, Q86, Q87, Q88, Q89, Q90, Q91, Q92, Q93, Q94, Q95, Q96, Q97, Q98]
 | cons t l ih =>
  intro i acc ds dl h vars hi hds hes hall hcall ha hv
  have hil : i < es.length := by simp at hi; omega
  have he : es[i]? = some (es[i]'hil) := List.getElem?_eq_getElem _
  have hd : es.drop i = es[i] :: es.drop (i + 1) := List.drop_eq_getElem_cons hil
  rw [hd] at hes
  cases hes with
  | cons _ _ _ _ hT hs' =>
  obtain ⟨r, hr, hc⟩ := hcall t (by simp) _ hT
  obtain ⟨acc', h2, h3, h4, h5⟩ := (ha.app (.box 24 (es[i]).cells)).add (x := .slc 4 true true [r]) (ys := [r]) (bytes := 56) elems_one (by
   have : room = 140737488355328 := rfl
   simp only [fits, List.length_cons, List.length_nil, decide_eq_true_eq]; omega)
  have hlt : (decide ((i : Int) < (es.length : Int))) = true := by simp; omega
  have sq := fun H : List AO => hq.snap H
  have q1 := hs.ia he
  have q3 : ∀ h : List AO, Q76 h true 4 (.ip (es[i]).cells) = some es[i] := fun h => hT.load
  have q5 : ∀ h : List AO, (es[i]).snap1 h = some es[i] := fun h => hT.snap
  have q6 : ∀ h : List AO, r.snap1 h = some r := fun h => hr.snap
  have q7 : r.cl = some r.cells := hr.cl.1
  have q8 : r.cells.length = 4 := hr.cl.2
  have st : exec (callW F) K c53_9 (L53 q acc c es.length i) h = some (.normal, [.junk, q, .ptr 0 0, .ptr 1 0, acc', .ptr h.length 0, .junk, c, .v (.int .i64 es.length), .v (.int .i64 ((i + 1 : Nat) : Int)), .v (.bool true)], h2) := by
   have hz : ([.v (.int .i64 0), .v (.string ⟨#[]⟩), .v (.int .i64 0), .v (.slice none 0 0)] : List AV).length = 4 := rfl
   simp only [L53, c53_9, c53_5, c53_6, c53_7, c53_8, hlt, wrap_succ hil (small_maxM hm), q1, q3, q5, q6, q7, q8, hc, h3, hT.st _ _ hz, hT.ld, sq, q9z, e_append, bs1_some q7 q8, Q104, Q105, bs1, bs2, Q106, Q107, Q108, Q109, bd1, Q110, Q111, toL, List.map_cons, List.map_nil, Q112, List.set_cons_zero, List.set_cons_succ, and_self, Nat.le_refl, Q114, Q115, Q116, Q0, Q1, Q2, Q3, Q4, Q5, Q6, Q7, Q8, Q9, Q10, Q11, Q12, Q13, Q14, Q15, Q16, Q17, Q18, Q19, Q20, Q21, Q22, Q23, Q24, Q25, Q26, Q27, Q28, Q29, Q30, Q31, Q32, Q33, Q34, Q35, Q36, Q37, Q38, Q39, Q40, Q41, Q42, Q43, Q44, Q45, Q46, Q47, Q48, Q49, Q50, Q51, Q52, Q53, Q54, Q55, Q56, Q57, Q58, Q59, Q60, Q61, Q62, Q63, Q64, Q65, Q66, Q67, Q68, Q69, Q70, Q71, Q72, Q73, Q99, Q100, Q101, Q102, Q103, Q74, Q75, Q77, Q78, Q79, Q80, Q81, Q82, Q83, Q84, clr, List.length_nil, List.length_cons, List.getElem?_cons_zero, List.getElem?_cons_succ, Nat.reduceAdd, Nat.zero_add, Nat.add_zero, Nat.reduceLeDiff, Nat.reduceSub, ↓reduceIte, List.drop_succ_cons, List.drop_zero, List.take_succ_cons, List.take_zero, Bool.false_eq_true, List.nil_append, List.cons_append, Bool.not_true, Bool.not_false, cond_true, cond_false, bne, Q85, Q86, Q87, Q88, Q89, Q90, Q91, Q92, Q93, Q94, Q95, Q96, Q97, Q98]
  rw [show (t :: l).length + 1 = (l.length + 1) + 1 from rfl, loop_normal (by rw [hv]; exact st)]
  obtain ⟨acc'', ds', h', x5, x6, x10, g1, g2, g3, g4, g5⟩ := ih (i + 1) acc' (ds ++ [r]) (dl ++ [numT vs t]) h2 [.junk, q, .ptr 0 0, .ptr 1 0, acc', .ptr h.length 0, .junk, c, .v (.int .i64 es.length), .v (.int .i64 ((i + 1 : Nat) : Int)), .v (.bool true)] (by simp at hi; omega) (by simp [hds]) hs' (hall.app (.one hr)) (fun t ht => hcall t (by simp [ht])) h4 rfl
  refine ⟨acc'', ds', h', x5, x6, x10, g1, g2, ?_, g4, ((Keeps.app _ _).trans h5).trans g5⟩
  rw [numL]
  simpa using g3

theorem num_ok {q : AV} {vs : List Int} (hq : Sl 1 q (vs.map iv)) (hvs : vs.length ≤ 450000) : ∀ (N : Nat) (t : Tm) (a : AV), SizeOf.sizeOf t < N → size t ≤ 450000 → IsT a t → ∃ r, IsT r (numT vs t) ∧ callW F 53 [a, q] [] = some (r, []) := by
 intro N
 induction N with
 | zero => intro t a h; omega
 | succ N ih =>
  intro t a hN hsz ha
  cases ha with
  | mk k s n c l hc =>
  have h5 := Tm.mk.sizeOf_spec k s n l
  simp only [size] at hsz
  have hll := sizeL_len l
  have hcall : ∀ t ∈ l, ∀ (e : AV), IsT e t → ∃ r, IsT r (numT vs t) ∧ callW F 53 [e, q] [] = some (r, []) := by
   intro t ht e hT
   have h6 := List.sizeOf_lt_of_mem ht
   have h7 := size_mem ht
   exact ih t e (by omega) (by omega) hT
  obtain ⟨es, hs, hes, hm⟩ := hc.sl
  have e1 := hes.length
  have key : ∀ n' : Int, ∃ acc' ds' h' x5 x6 x10, loopN (exec (callW F) (l.length + 1) c53_9) K53 (l.length + 1) (L53 q (.v (.slice none 0 0)) c es.length 0) [.box 24 [.v (.int .i64 k), .v (.string s), .v (.int .i64 n'), c], .box 24 zeroC] = some (.exit 0, [.junk, q, .ptr 0 0, .ptr 1 0, acc', x5, x6, c, .v (.int .i64 es.length), .v (.int .i64 es.length), x10], h') ∧ Acc 24 4 h' acc' ds' ∧ All2 ds' (numL vs l) ∧ ds'.length = es.length ∧ Keeps [.box 24 [.v (.int .i64 k), .v (.string s), .v (.int .i64 n'), c], .box 24 zeroC] h' := by
   intro n'
   exact num_loop (K := l.length + 1) hs (by omega) hq l 0 (.v (.slice none 0 0)) [] [] _ (L53 q (.v (.slice none 0 0)) c es.length 0) (by omega) rfl (by simpa using hes) .nil hcall .nil rfl
  have last : ∀ (n' : Int) (acc' x5 x6 x10 : AV) (ds' : List AV) (h' : List AO), Acc 24 4 h' acc' ds' → All2 ds' (numL vs l) → ds'.length = es.length → Keeps [.box 24 [.v (.int .i64 k), .v (.string s), .v (.int .i64 n'), c], .box 24 zeroC] h' →
    ∃ r, IsT r (.mk k s n' (numL vs l)) ∧ lv [.cell 3 true 4] (exec (callW F) (l.length + 1) (.seq (.region [] [] c53_10) (.seq (.region [] [] c53_11) .ret)) [.junk, q, .ptr 0 0, .ptr 1 0, acc', x5, x6, c, .v (.int .i64 es.length), .v (.int .i64 es.length), x10] h') = some (r, []) := by
   intro n' acc' x5 x6 x10 ds' h' ha hall hlen hk
   have b0 := hk.2 0 _ _ rfl
   have b1 := hk.2 1 _ _ rfl
   have hlt0 : 0 < h'.length := (List.getElem?_eq_some_iff.1 b0).1
   have hlt1 : 1 < h'.length := (List.getElem?_eq_some_iff.1 b1).1
   have s1 := bx_st (n := 1) (o := 3) (xs := [acc']) (x := acc') b0 ha.cl rfl (by simp)
   simp only [Q112, List.set_cons_succ, List.set_cons_zero] at s1
   have b0' : (h'.set 0 (.box 24 [.v (.int .i64 k), .v (.string s), .v (.int .i64 n'), acc']))[0]? = some (.box 24 [.v (.int .i64 k), .v (.string s), .v (.int .i64 n'), acc']) := by simp [hlt0]
   have b1' : (h'.set 0 (.box 24 [.v (.int .i64 k), .v (.string s), .v (.int .i64 n'), acc']))[1]? = some (.box 24 zeroC) := by simp [b1]
   have s2 := bx_st (n := 4) (o := 0) (x := .agg [.v (.int .i64 k), .v (.string s), .v (.int .i64 n'), acc']) b1' Q110 rfl (by simp [zeroC])
   simp only [Q112, zeroC, List.set_cons_succ, List.set_cons_zero, Nat.zero_add, Nat.reduceAdd] at s2
   have b1'' : ((h'.set 0 (.box 24 [.v (.int .i64 k), .v (.string s), .v (.int .i64 n'), acc'])).set 1 (.box 24 [.v (.int .i64 k), .v (.string s), .v (.int .i64 n'), acc']))[1]? = some (.box 24 [.v (.int .i64 k), .v (.string s), .v (.int .i64 n'), acc']) := by simp [hlt1]
   have l1 := bx_ld b0' (a := true) (n := 4) (o := 0)
   have l2 := bx_ld b1'' (a := true) (n := 4) (o := 0)
   have ha' : Acc 24 4 ((h'.set 0 (.box 24 [.v (.int .i64 k), .v (.string s), .v (.int .i64 n'), acc'])).set 1 (.box 24 [.v (.int .i64 k), .v (.string s), .v (.int .i64 n'), acc'])) acc' ds' := by
    cases ha with
    | nil => exact .nil
    | own id ver k es hr hk hne =>
     refine .own id ver k ds' ?_ hk hne
     have n0 : 0 ≠ id := fun e => by subst e; rw [b0] at hr; cases hr
     have n1 : 1 ≠ id := fun e => by subst e; rw [b1] at hr; cases hr
     rw [List.getElem?_set_ne n1, List.getElem?_set_ne n0]; exact hr
   obtain ⟨c', f1, f2⟩ := ha'.frz0
   refine ⟨.agg [.v (.int .i64 k), .v (.string s), .v (.int .i64 n'), c'], .mk k s n' c' _ (Sl.isL f2 hall (by omega)), ?_⟩
   have lf : lvf ((h'.set 0 (.box 24 [.v (.int .i64 k), .v (.string s), .v (.int .i64 n'), acc'])).set 1 (.box 24 [.v (.int .i64 k), .v (.string s), .v (.int .i64 n'), acc'])) (.agg [.v (.int .i64 k), .v (.string s), .v (.int .i64 n'), acc']) = some (.agg [.v (.int .i64 k), .v (.string s), .v (.int .i64 n'), c'], []) := by
    have fz : ∀ (x : Value) (h : List AO), (AV.v x).frz0 0 h = some (.v x) := fun _ _ => rfl
    simp [lvf, AV.frz2, AV.frz1, fz, f1]
   simp only [c53_10, c53_11, s1, s2, l1, l2, lf, Q104, Q105, bs1, bs2, Q106, Q107, Q108, Q109, bd1, Q110, Q111, toL, List.map_cons, List.map_nil, Q112, List.set_cons_zero, List.set_cons_succ, and_self, Nat.le_refl, Q114, Q115, Q116, Q0, Q1, Q2, Q3, Q4, Q5, Q6, Q7, Q8, Q9, Q10, Q11, Q12, Q13, Q14, Q15, Q16, Q17, Q18, Q19, Q20, Q21, Q22, Q23, Q24, Q25, Q26, Q27, Q28, Q29, Q30, Q31, Q32, Q33, Q34, Q35, Q36, Q37, Q38, Q39, Q40, Q41, Q42, Q43, Q44, Q45, Q46, Q47, Q48, Q49, Q50, Q51, Q52, Q53, Q54, Q55, Q56, Q57, Q58, Q59, Q60, Q61, Q62, Q63, Q64, Q65, Q66, Q67, Q68, Q69, Q70, Q71, Q72, Q73, Q99, Q100, Q101, Q102, Q103, Q74, Q75, Q77, Q78, Q79, Q80, Q81, Q82, Q83, Q84, clr, List.length_nil, List.length_cons, List.getElem?_cons_zero, List.getElem?_cons_succ, Nat.reduceAdd, Nat.zero_add, Nat.add_zero, Nat.reduceLeDiff, Nat.reduceSub, ↓reduceIte, List.drop_succ_cons, List.drop_zero, List.take_succ_cons, List.take_zero, Bool.false_eq_true, List.nil_append, List.cons_append, Bool.not_true, Bool.not_false, cond_true, cond_false, bne, Q85, Q86, Q87, Q88, Q89, Q90, Q91, Q92, Q93, Q94, Q95, Q96, Q97, Q98]
  by_cases hk : k = 1
  ·have h1 : (k == 1) = true := by simpa using hk
   have hp := place_ok hq hvs n
   have hv := var1_ok (plcT vs n)
   have sq := fun H : List AO => hq.snap H
   refine ⟨.agg [.v (.int .i64 1), .v (.string nos), .v (.int .i64 (plcT vs n)), .v (.slice none 0 0)], by rw [numT, if_pos hk]; exact .mk 1 nos _ _ [] .nil, callW_pure (c := c53) rfl rfl (l.length + 1) ?_⟩
   simp only [c53, start, List.replicate, c53_0, c53_1, c53_2, h1, hs.len, q9z, hp, hv, sq, snap_int, Q113, Q104, Q105, bs1, bs2, Q106, Q107, Q108, Q109, bd1, Q110, Q111, toL, List.map_cons, List.map_nil, Q112, List.set_cons_zero, List.set_cons_succ, and_self, Nat.le_refl, Q113, Q114, Q115, Q116, Q0, Q1, Q2, Q3, Q4, Q5, Q6, Q7, Q8, Q9, Q10, Q11, Q12, Q13, Q14, Q15, Q16, Q17, Q18, Q19, Q20, Q21, Q22, Q23, Q24, Q25, Q26, Q27, Q28, Q29, Q30, Q31, Q32, Q33, Q34, Q35, Q36, Q37, Q38, Q39, Q40, Q41, Q42, Q43, Q44, Q45, Q46, Q47, Q48, Q49, Q50, Q51, Q52, Q53, Q54, Q55, Q56, Q57, Q58, Q59, Q60, Q61, Q62, Q63, Q64, Q65, Q66, Q67, Q68, Q69, Q70, Q71, Q72, Q73, Q99, Q100, Q101, Q102, Q103, Q74, Q75, Q76, Q77, Q78, Q79, Q80, Q81, Q82, Q83, Q84, clr, List.length_nil, List.length_cons, List.getElem?_cons_zero, List.getElem?_cons_succ, Nat.reduceAdd, Nat.zero_add, Nat.add_zero, Nat.reduceLeDiff, Nat.reduceSub, ↓reduceIte, List.drop_succ_cons, List.drop_zero, List.take_succ_cons, List.take_zero, Bool.false_eq_true, List.nil_append, List.cons_append, Bool.not_true, Bool.not_false, cond_true, cond_false, bne, Q85, Q86, Q87, Q88, Q89, Q90, Q91, Q92, Q93, Q94, Q95, Q96, Q97, Q98]
   rfl
  ·have h1 : (k == 1) = false := by simpa using hk
   obtain ⟨acc', ds', h', x5, x6, x10, g1, g2, g3, g4, g5⟩ := key n
   obtain ⟨r, hr, hlv⟩ := last _ acc' x5 x6 x10 ds' h' g2 g3 g4 g5
   refine ⟨r, by rw [numT, if_neg hk]; exact hr, callW_pure (c := c53) rfl rfl (l.length + 1) ?_⟩
   rw [← hlv]
   show lv [.cell 3 true 4] (exec (callW F) (l.length + 1) (.seq (.region [] [] c53_0) (.seq (.seq (.region [] [] c53_1) (.cond (.var 6) (.seq (.region [] [] c53_2) .ret) .skip)) (.seq (.region [] [] c53_3) (.seq (.seq (.region [] [] c53_4) (.block 0 (.loop K53 [] c53_9))) (.seq (.region [] [] c53_10) (.seq (.region [] [] c53_11) .ret)))))) _ _) = _
   generalize (CC.seq (.region [] [] c53_10) (.seq (.region [] [] c53_11) .ret)) = rest
   simp only [zeroC] at g1
   simp only [c53, start, List.replicate, c53_0, c53_1, c53_3, c53_4, h1, hs.len, q9z, Q113, Q104, Q105, bs1, bs2, Q106, Q107, Q108, Q109, bd1, Q110, Q111, toL, List.map_cons, List.map_nil, Q112, List.set_cons_zero, List.set_cons_succ, and_self, Nat.le_refl, Q113, Q114, Q115, Q116, Q0, Q1, Q2, Q3, Q4, Q5, Q6, Q7, Q8, Q9, Q10, Q11, Q12, Q13, Q14, Q15, Q16, Q17, Q18, Q19, Q20, Q21, Q22, Q23, Q24, Q25, Q26, Q27, Q28, Q29, Q30, Q31, Q32, Q33, Q34, Q35, Q36, Q37, Q38, Q39, Q40, Q41, Q42, Q43, Q44, Q45, Q46, Q47, Q48, Q49, Q50, Q51, Q52, Q53, Q54, Q55, Q56, Q57, Q58, Q59, Q60, Q61, Q62, Q63, Q64, Q65, Q66, Q67, Q68, Q69, Q70, Q71, Q72, Q73, Q99, Q100, Q101, Q102, Q103, Q74, Q75, Q76, Q77, Q78, Q79, Q80, Q81, Q82, Q83, Q84, clr, List.length_nil, List.length_cons, List.getElem?_cons_zero, List.getElem?_cons_succ, Nat.reduceAdd, Nat.zero_add, Nat.add_zero, Nat.reduceLeDiff, Nat.reduceSub, ↓reduceIte, List.drop_succ_cons, List.drop_zero, List.take_succ_cons, List.take_zero, Bool.false_eq_true, List.nil_append, List.cons_append, Bool.not_true, Bool.not_false, cond_true, cond_false, bne, Q85, Q86, Q87, Q88, Q89, Q90, Q91, Q92, Q93, Q94, Q95, Q96, Q97, Q98]
   rw [loop_cong (v2 := L53 q (.v (.slice none 0 0)) c es.length 0) (by rfl), g1]
   simp only [Q19, Q12]
end Go.AE.YtinhjhkmpknbbaaDoor
end

section
namespace Go.AE.YtinhjhkmpknbbaaDoor
open Go Go.AE Go.Proofs.YtinhjhkmpknbbaaDoor

def isB (t : Tm) (s : ByteArray) (n : Int) : Bool := (t.k == 4) && ((t.s.toList == s.toList) && ((t.l.length : Int) == n))
theorem isB_2 (t : Tm) (s : ByteArray) : isB t s 2 = is2 t s := by
 have e : ((t.l.length : Int) == 2) = decide (t.l.length = 2) := by
  by_cases h : t.l.length = 2
  ·simp [h]
  ·have : ¬ (t.l.length : Int) = 2 := by omega
   simp [h, this]
 have e2 : (t.k == 4) = decide (t.k = 4) := rfl
 rw [isB, is2, e, e2]
theorem is_ok {a : AV} {t : Tm} (ha : IsT a t) (s : ByteArray) (n : Int) : callW F 54 [a, .v (.string s), .v (.int .i64 n)] [] = some (.v (.bool (isB t s n)), []) := by
 refine callW_pure (c := c54) rfl rfl 0 ?_
 cases ha with
 | mk k s' m c l hc =>
 have q1 := fun h : List AO => hc.len h
 unfold isB
 simp only [Tm.k, Tm.s, Tm.l]
 generalize hA : (k == 4) = A
 generalize hB : (s'.toList == s.toList) = B
 generalize hC : ((l.length : Int) == n) = C
 cases A <;> cases B <;> cases C <;> simp only [c54, start, List.replicate, c54_0, c54_1, tbx, tb0, tb1, tb2, tb3, q1, hA, hB, hC, Q122, Bool.true_and, Bool.false_and, Bool.and_self, Q0, Q1, Q2, Q3, Q4, Q5, Q6, Q7, Q8, Q9, Q10, Q11, Q12, Q13, Q14, Q15, Q16, Q17, Q18, Q19, Q20, Q21, Q22, Q23, Q24, Q25, Q26, Q27, Q28, Q29, Q30, Q31, Q32, Q33, Q35, Q36, Q37, Q38, Q39, Q40, Q41, Q42, Q43, Q44, Q45, Q46, Q47, Q48, Q49, Q50, Q51, Q52, Q53, Q54, Q55, Q56, Q57, Q58, Q59, Q60, Q61, Q62, Q63, Q64, Q65, Q66, Q67, Q68, Q69, Q70, Q71, Q72, Q73, Q99, Q100, Q101, Q102, Q103, Q74, Q75, Q77, Q78, Q79, Q80, Q81, Q82, Q83, Q84, clr, List.length_nil, List.length_cons, List.getElem?_cons_zero, List.getElem?_cons_succ, Nat.reduceAdd, Nat.zero_add, Nat.add_zero, Nat.reduceLeDiff, Nat.reduceSub, ↓reduceIte, List.drop_succ_cons, List.drop_zero, List.take_succ_cons, List.take_zero, Bool.false_eq_true, List.nil_append, List.cons_append, Bool.not_true, Bool.not_false, cond_true, cond_false, bne, Q85, Q86, Q87, Q88, Q89, Q90, Q91, Q92, Q93, Q94, Q95, Q96, Q97, Q98, Q110, Q111, Q116, Q117, Q118, Q119, Q120, Q121, Q122, Q123, Option.map_some, Option.map_none]

def sv (s : ByteArray) : AV := .v (.string s)
def K84 : List Bool := [false, true, false, false, true, true, true, false, false]
def L84 (s : ByteArray) (c : AV) (len i : Int) : List AV := [.junk, .v (.string s), .junk, .junk, c, .v (.int .i64 len), .v (.int .i64 i), .junk, .junk]
theorem hasS_loop {K : Nat} {c : AV} {es : List AV} (hs : Sl 1 c es) (hm : es.length ≤ 1000000) (s : ByteArray) :
  ∀ (l : List ByteArray) (i : Nat) (h : List AO) (vars : List AV), i + l.length = es.length → es.drop i = l.map sv → clr K84 vars = L84 s c es.length i →
   (hasS l s = true ∧ ∃ vs, loopN (exec (callW F) K c84_7) K84 (l.length + 1) vars h = some (.ret, vs, h) ∧ getO vs [] (.var 2) = .v (.bool true)) ∨ (hasS l s = false ∧ ∃ vs, loopN (exec (callW F) K c84_7) K84 (l.length + 1) vars h = some (.exit 0, vs, h) ∧ vs.length = 9) := by
 intro l
 induction l with
 | nil =>
  intro i h vars hi _ hv
  have hil : i = es.length := by simpa using hi
  subst hil
  have hlt : decide ((es.length : Int) < (es.length : Int)) = false := by simp
  refine .inr ⟨rfl, [.junk, .v (.string s), .junk, .junk, c, .v (.int .i64 es.length), .v (.int .i64 es.length), .v (.bool false), .junk], loop_exit ?_, rfl⟩
  rw [hv]
  simp only [L84, c84_7, c84_2, hlt, Q104, Q105, bs1, bs2, Q106, Q107, Q108, Q109, bd1, Q110, Q111, toL, List.map_cons, List.map_nil, Q112, List.set_cons_zero, List.set_cons_succ, and_self, Nat.le_refl, Q114, Q115, Q116, Q0, Q1, Q2, Q3, Q4, Q5, Q6, Q7, Q8, Q9, Q10, Q11, Q12, Q13, Q14, Q15, Q16, Q17, Q18, Q19, Q20, Q21, Q22, Q23, Q24, Q25, Q26, Q27, Q28, Q29, Q30, Q31, Q32, Q33, Q34, Q35, Q36, Q37, Q38, Q39, Q40, Q41, Q42, Q43, Q44, Q45, Q46, Q47, Q48, Q49, Q50, Q51, Q52, Q53, Q54, Q55, Q56, Q57, Q58, Q59, Q60, Q61, Q62, Q63, Q64, Q65, Q66, Q67, Q68, Q69, Q70, Q71, Q72, Q73, AV.cl, Q74, Q75, Q76, Q77, Q78, Q79, Q80, Q81, Q82, Q83, Q84, clr, List.length_nil, List.length_cons, List.getElem?_cons_zero, List.getElem?_cons_succ, Nat.reduceAdd, Nat.zero_add, Nat.add_zero, Nat.reduceLeDiff, Nat.reduceSub, ↓reduceIte, List.drop_succ_cons, List.drop_zero, List.take_succ_cons, List.take_zero, Bool.false_eq_true, List.nil_append, List.cons_append, Bool.not_true, Bool.not_false, cond_true, cond_false, bne, Q85, Q86, Q87, Q88, Q89, Q90, Q91, Q92, Q93, Q94, Q95, Q96, Q97, Q98]
 | cons k l ih =>
  intro i h vars hi hes hv
  have hil : i < es.length := by simp at hi; omega
  have he : es[i]? = some (sv k) := by
   have : (es.drop i)[0]? = some (sv k) := by rw [hes]; rfl
   simpa using this
  have hd : es.drop (i + 1) = l.map sv := by
   have h2 := congrArg List.tail hes
   simpa using h2
  have hlt : (decide ((i : Int) < (es.length : Int))) = true := by simp; omega
  have q1 := hs.ia he
  cases hk : (k.toList == s.toList) with
  | true =>
   left
   refine ⟨by simp [hasS, hk], [.junk, .v (.string s), .v (.bool true), .v (.string k), c, .v (.int .i64 es.length), .v (.int .i64 i), .v (.bool true), .v (.bool true)], loop_ret ?_, rfl⟩
   rw [hv]
   simp only [L84, sv, AV.cells, c84_7, c84_2, c84_3, c84_4, c84_5, hlt, hk, q1, Q104, Q105, bs1, bs2, Q106, Q107, Q108, Q109, bd1, Q110, Q111, toL, List.map_cons, List.map_nil, Q112, List.set_cons_zero, List.set_cons_succ, and_self, Nat.le_refl, Q114, Q115, Q116, Q0, Q1, Q2, Q3, Q4, Q5, Q6, Q7, Q8, Q9, Q10, Q11, Q12, Q13, Q14, Q15, Q16, Q17, Q18, Q19, Q20, Q21, Q22, Q23, Q24, Q25, Q26, Q27, Q28, Q29, Q30, Q31, Q32, Q33, Q34, Q35, Q36, Q37, Q38, Q39, Q40, Q41, Q42, Q43, Q44, Q45, Q46, Q47, Q48, Q49, Q50, Q51, Q52, Q53, Q54, Q55, Q56, Q57, Q58, Q59, Q60, Q61, Q62, Q63, Q64, Q65, Q66, Q67, Q68, Q69, Q70, Q71, Q72, Q73, AV.cl, Q74, Q75, Q76, Q77, Q78, Q79, Q80, Q81, Q82, Q83, Q84, clr, List.length_nil, List.length_cons, List.getElem?_cons_zero, List.getElem?_cons_succ, Nat.reduceAdd, Nat.zero_add, Nat.add_zero, Nat.reduceLeDiff, Nat.reduceSub, ↓reduceIte, List.drop_succ_cons, List.drop_zero, List.take_succ_cons, List.take_zero, Bool.false_eq_true, List.nil_append, List.cons_append, Bool.not_true, Bool.not_false, cond_true, cond_false, bne, Q85, Q86, Q87, Q88, Q89, Q90, Q91, Q92, Q93, Q94, Q95, Q96, Q97, Q98]
  | false =>
   have st : exec (callW F) K c84_7 (L84 s c es.length i) h = some (.normal, [.junk, .v (.string s), .junk, .v (.string k), c, .v (.int .i64 es.length), .v (.int .i64 ((i + 1 : Nat) : Int)), .v (.bool true), .v (.bool false)], h) := by
    have : maxLen = 9223372036854775807 := rfl
    simp only [L84, sv, AV.cells, c84_7, c84_2, c84_3, c84_4, c84_6, hlt, hk, wrap_succ hil (by omega), q1, Q104, Q105, bs1, bs2, Q106, Q107, Q108, Q109, bd1, Q110, Q111, toL, List.map_cons, List.map_nil, Q112, List.set_cons_zero, List.set_cons_succ, and_self, Nat.le_refl, Q114, Q115, Q116, Q0, Q1, Q2, Q3, Q4, Q5, Q6, Q7, Q8, Q9, Q10, Q11, Q12, Q13, Q14, Q15, Q16, Q17, Q18, Q19, Q20, Q21, Q22, Q23, Q24, Q25, Q26, Q27, Q28, Q29, Q30, Q31, Q32, Q33, Q34, Q35, Q36, Q37, Q38, Q39, Q40, Q41, Q42, Q43, Q44, Q45, Q46, Q47, Q48, Q49, Q50, Q51, Q52, Q53, Q54, Q55, Q56, Q57, Q58, Q59, Q60, Q61, Q62, Q63, Q64, Q65, Q66, Q67, Q68, Q69, Q70, Q71, Q72, Q73, AV.cl, Q74, Q75, Q76, Q77, Q78, Q79, Q80, Q81, Q82, Q83, Q84, clr, List.length_nil, List.length_cons, List.getElem?_cons_zero, List.getElem?_cons_succ, Nat.reduceAdd, Nat.zero_add, Nat.add_zero, Nat.reduceLeDiff, Nat.reduceSub, ↓reduceIte, List.drop_succ_cons, List.drop_zero, List.take_succ_cons, List.take_zero, Bool.false_eq_true, List.nil_append, List.cons_append, Bool.not_true, Bool.not_false, cond_true, cond_false, bne, Q85, Q86, Q87, Q88, Q89, Q90, Q91, Q92, Q93, Q94, Q95, Q96, Q97, Q98]
   rw [show (k :: l).length + 1 = (l.length + 1) + 1 from rfl, loop_normal (by rw [hv]; exact st)]
   have hc : hasS (k :: l) s = hasS l s := by simp [hasS, hk]
   rw [hc]
   exact ih (i + 1) h _ (by simp at hi; omega) hd rfl
theorem hasS_ok {c : AV} {ss : List ByteArray} (hs : Sl 1 c (ss.map sv)) (hm : ss.length ≤ 1000000) (s : ByteArray) : callW F 84 [c, .v (.string s)] [] = some (.v (.bool (hasS ss s)), []) := by
 refine callW_pure (c := c84) rfl rfl (ss.length + 1) ?_
 have key := hasS_loop (K := ss.length + 1) hs (by simpa using hm) s ss 0 [] (L84 s c (ss.map sv).length (0 : Nat)) (by simp) rfl rfl
 show lv [.var 2] (exec (callW F) (ss.length + 1) (.seq (.region [] [] c84_0) (.seq (.seq (.region [] [] c84_1) (.block 0 (.loop K84 [] c84_7))) (.seq (.region [] [] c84_8) .ret))) _ _) = _
 generalize hrest : (CC.seq (.region [] [] c84_8) .ret) = rest
 simp only [c84, start, List.replicate, c84_0, c84_1, hs.len, Q104, Q105, bs1, bs2, Q106, Q107, Q108, Q109, bd1, Q110, Q111, toL, List.map_cons, List.map_nil, Q112, List.set_cons_zero, List.set_cons_succ, and_self, Nat.le_refl, Q114, Q115, Q116, Q0, Q1, Q2, Q3, Q4, Q5, Q6, Q7, Q8, Q9, Q10, Q11, Q12, Q13, Q14, Q15, Q16, Q17, Q18, Q19, Q20, Q21, Q22, Q23, Q24, Q25, Q26, Q27, Q28, Q29, Q30, Q31, Q32, Q33, Q34, Q35, Q36, Q37, Q38, Q39, Q40, Q41, Q42, Q43, Q44, Q45, Q46, Q47, Q48, Q49, Q50, Q51, Q52, Q53, Q54, Q55, Q56, Q57, Q58, Q59, Q60, Q61, Q62, Q63, Q64, Q65, Q66, Q67, Q68, Q69, Q70, Q71, Q72, Q73, AV.cl, Q74, Q75, Q76, Q77, Q78, Q79, Q80, Q81, Q82, Q83, Q84, clr, List.length_nil, List.length_cons, List.getElem?_cons_zero, List.getElem?_cons_succ, Nat.reduceAdd, Nat.zero_add, Nat.add_zero, Nat.reduceLeDiff, Nat.reduceSub, ↓reduceIte, List.drop_succ_cons, List.drop_zero, List.take_succ_cons, List.take_zero, Bool.false_eq_true, List.nil_append, List.cons_append, Bool.not_true, Bool.not_false, cond_true, cond_false, bne, Q85, Q86, Q87, Q88, Q89, Q90, Q91, Q92, Q93, Q94, Q95, Q96, Q97, Q98]
 rw [loop_cong (v2 := L84 s c (ss.map sv).length ((0 : Nat) : Int)) (by rfl)]
 rcases key with ⟨h0, vs, h1, h2⟩ | ⟨h0, vs, h1, h2⟩
 ·rw [h1, h0]
  simp only [Q18, Q14, h2, Q0, Q1, Q2, Q3, Q4, Q5, Q6, Q7, Q8, Q9, Q10, Q11, Q12, Q13, Q14, Q15, Q16, Q17, Q18, Q19, Q20, Q21, Q22, Q23, Q24, Q25, Q26, Q27, Q28, Q29, Q30, Q31, Q32, Q33, Q34, Q35, Q36, Q37, Q38, Q39, Q40, Q41, Q42, Q43, Q44, Q45, Q46, Q47, Q48, Q49, Q50, Q51, Q52, Q53, Q54, Q55, Q56, Q57, Q58, Q59, Q60, Q61, Q62, Q63, Q64, Q65, Q66, Q67, Q68, Q69, Q70, Q71, Q72, Q73, AV.cl, Q74, Q75, Q76, Q77, Q78, Q79, Q80, Q81, Q82, Q83, Q84, clr, List.length_nil, List.length_cons, List.getElem?_cons_zero, List.getElem?_cons_succ, Nat.reduceAdd, Nat.zero_add, Nat.add_zero, Nat.reduceLeDiff, Nat.reduceSub, ↓reduceIte, List.drop_succ_cons, List.drop_zero, List.take_succ_cons, List.take_zero, Bool.false_eq_true, List.nil_append, List.cons_append, Bool.not_true, Bool.not_false, cond_true, cond_false, bne, Q85, Q86, Q87, Q88, Q89, Q90, Q91, Q92, Q93, Q94, Q95, Q96, Q97, Q98]
 ·rw [h1, h0, ← hrest]
  match vs, h2 with
  | [a0, a1, a2, a3, a4, a5, a6, a7, a8], _ => simp only [c84_8, Q0, Q1, Q2, Q3, Q4, Q5, Q6, Q7, Q8, Q9, Q10, Q11, Q12, Q13, Q14, Q15, Q16, Q17, Q18, Q19, Q20, Q21, Q22, Q23, Q24, Q25, Q26, Q27, Q28, Q29, Q30, Q31, Q32, Q33, Q34, Q35, Q36, Q37, Q38, Q39, Q40, Q41, Q42, Q43, Q44, Q45, Q46, Q47, Q48, Q49, Q50, Q51, Q52, Q53, Q54, Q55, Q56, Q57, Q58, Q59, Q60, Q61, Q62, Q63, Q64, Q65, Q66, Q67, Q68, Q69, Q70, Q71, Q72, Q73, AV.cl, Q74, Q75, Q76, Q77, Q78, Q79, Q80, Q81, Q82, Q83, Q84, clr, List.length_nil, List.length_cons, List.getElem?_cons_zero, List.getElem?_cons_succ, Nat.reduceAdd, Nat.zero_add, Nat.add_zero, Nat.reduceLeDiff, Nat.reduceSub, ↓reduceIte, List.drop_succ_cons, List.drop_zero, List.take_succ_cons, List.take_zero, Bool.false_eq_true, List.nil_append, List.cons_append, Bool.not_true, Bool.not_false, cond_true, cond_false, bne, Q85, Q86, Q87, Q88, Q89, Q90, Q91, Q92, Q93, Q94, Q95, Q96, Q97, Q98]
def namesT (n : Int) : List ByteArray :=
 if n = 0 then [⟨#[116, 114, 117, 101]⟩, ⟨#[102, 97, 105, 108]⟩, ⟨#[33]⟩]
 else if n = 1 then [⟨#[118, 97, 114]⟩, ⟨#[110, 111, 110, 118, 97, 114]⟩, ⟨#[97, 116, 111, 109]⟩, ⟨#[105, 110, 116, 101, 103, 101, 114]⟩, ⟨#[97, 116, 111, 109, 105, 99]⟩, ⟨#[99, 111, 109, 112, 111, 117, 110, 100]⟩]
 else if n = 2 then [⟨#[61]⟩, ⟨#[92, 61]⟩, ⟨#[61, 61]⟩, ⟨#[92, 61, 61]⟩, ⟨#[64, 60]⟩, ⟨#[64, 61, 60]⟩, ⟨#[64, 62]⟩, ⟨#[64, 62, 61]⟩, ⟨#[61, 46, 46]⟩, ⟨#[105, 115]⟩, ⟨#[61, 58, 61]⟩, ⟨#[61, 92, 61]⟩, ⟨#[60]⟩, ⟨#[61, 60]⟩, ⟨#[62]⟩, ⟨#[62, 61]⟩]
 else if n = 3 then [⟨#[102, 117, 110, 99, 116, 111, 114]⟩, ⟨#[97, 114, 103]⟩]
 else []
theorem namesT_len (n : Int) : (namesT n).length ≤ 16 := by
 unfold namesT
 repeat' split
 all_goals decide
theorem names_ok (n : Int) : ∃ c, Sl 1 c ((namesT n).map sv) ∧ callW F 85 [.v (.int .i64 n)] [] = some (c, []) := by
 by_cases h0 : n = 0
 ·subst h0
  exact ⟨_, .slc true true _, callW_iff.2 ⟨10, by kernel_rfl⟩⟩
 by_cases h1 : n = 1
 ·subst h1
  exact ⟨_, .slc true true _, callW_iff.2 ⟨10, by kernel_rfl⟩⟩
 by_cases h2 : n = 2
 ·subst h2
  exact ⟨_, .slc true true _, callW_iff.2 ⟨10, by kernel_rfl⟩⟩
 by_cases h3 : n = 3
 ·subst h3
  exact ⟨_, .slc true true _, callW_iff.2 ⟨10, by kernel_rfl⟩⟩
 have e0 : (n == 0) = false := by simpa using h0
 have e1 : (n == 1) = false := by simpa using h1
 have e2 : (n == 2) = false := by simpa using h2
 have e3 : (n == 3) = false := by simpa using h3
 refine ⟨.v (.slice none 0 0), by rw [namesT, if_neg h0, if_neg h1, if_neg h2, if_neg h3]; exact .nil, callW_pure (c := c85) rfl rfl 0 ?_⟩
 simp only [c85, start, List.replicate, c85_0, c85_1, c85_2, c85_4, c85_6, c85_8, c85_10, e0, e1, e2, e3, Q0, Q1, Q2, Q3, Q4, Q5, Q6, Q7, Q8, Q9, Q10, Q11, Q12, Q13, Q14, Q15, Q16, Q17, Q18, Q19, Q20, Q21, Q22, Q23, Q24, Q25, Q26, Q27, Q28, Q29, Q30, Q31, Q32, Q33, Q35, Q36, Q37, Q38, Q39, Q40, Q41, Q42, Q43, Q44, Q45, Q46, Q47, Q48, Q49, Q50, Q51, Q52, Q53, Q54, Q55, Q56, Q57, Q58, Q59, Q60, Q61, Q62, Q63, Q64, Q65, Q66, Q67, Q68, Q69, Q70, Q71, Q72, Q73, Q99, Q100, Q101, Q102, Q103, Q74, Q75, Q77, Q78, Q79, Q80, Q81, Q82, Q83, Q84, clr, List.length_nil, List.length_cons, List.getElem?_cons_zero, List.getElem?_cons_succ, Nat.reduceAdd, Nat.zero_add, Nat.add_zero, Nat.reduceLeDiff, Nat.reduceSub, ↓reduceIte, List.drop_succ_cons, List.drop_zero, List.take_succ_cons, List.take_zero, Bool.false_eq_true, List.nil_append, List.cons_append, Bool.not_true, Bool.not_false, cond_true, cond_false, bne, Q85, Q86, Q87, Q88, Q89, Q90, Q91, Q92, Q93, Q94, Q95, Q96, Q97, Q98, Q110, Q111, Q116, Q117, Q118, Q119, Q120, Q121, Q122, Q123, Option.map_some, Option.map_none, Q34]
def builtB (s : ByteArray) (n : Int) : Bool := hasS (namesT n) s
theorem built_ok (s : ByteArray) (n : Int) : callW F 57 [.v (.string s), .v (.int .i64 n)] [] = some (.v (.bool (builtB s n)), []) := by
 obtain ⟨c, h1, h2⟩ := names_ok n
 have h3 := hasS_ok h1 (by have := namesT_len n; omega) s
 have sn := fun H : List AO => h1.snap H
 refine callW_pure (c := c57) rfl rfl 0 ?_
 unfold builtB
 simp only [c57, start, List.replicate, c57_0, c57_1, h2, h3, sn, snap_int, snap_str, Q0, Q1, Q2, Q3, Q4, Q5, Q6, Q7, Q8, Q9, Q10, Q11, Q12, Q13, Q14, Q15, Q16, Q17, Q18, Q19, Q20, Q21, Q22, Q23, Q24, Q25, Q26, Q27, Q28, Q29, Q30, Q31, Q32, Q33, Q35, Q36, Q37, Q38, Q39, Q40, Q41, Q42, Q43, Q44, Q45, Q46, Q47, Q48, Q49, Q50, Q51, Q52, Q53, Q54, Q55, Q56, Q57, Q58, Q59, Q60, Q61, Q62, Q63, Q64, Q65, Q66, Q67, Q68, Q69, Q70, Q71, Q72, Q73, Q99, Q100, Q101, Q102, Q103, Q74, Q75, Q77, Q78, Q79, Q80, Q81, Q82, Q83, Q84, clr, List.length_nil, List.length_cons, List.getElem?_cons_zero, List.getElem?_cons_succ, Nat.reduceAdd, Nat.zero_add, Nat.add_zero, Nat.reduceLeDiff, Nat.reduceSub, ↓reduceIte, List.drop_succ_cons, List.drop_zero, List.take_succ_cons, List.take_zero, Bool.false_eq_true, List.nil_append, List.cons_append, Bool.not_true, Bool.not_false, cond_true, cond_false, bne, Q85, Q86, Q87, Q88, Q89, Q90, Q91, Q92, Q93, Q94, Q95, Q96, Q97, Q98, Q110, Q111, Q116, Q117, Q118, Q119, Q120, Q121, Q122, Q123, Option.map_some, Option.map_none, Q34]

theorem goal_ok {a : AV} {t : Tm} (ha : IsT a t) : callW F 56 [a] [] = some (.v (.bool (goalB t)), []) := by
 refine callW_pure (c := c56) rfl rfl 0 ?_
 cases ha with
 | mk k s n c l hc =>
 have q1 := fun h : List AO => hc.len h
 have b3 : ∀ (vars env : List AV) (h : List AO), evOp (callW F) vars env h (.bslice 1 [(.string ⟨#[]⟩)] 3 [(0, (.k (.string ⟨#[92, 43]⟩))), (1, (.k (.string ⟨#[58, 45]⟩))), (2, (.k (.string ⟨#[63, 45]⟩)))]) = some (.slc 1 true true (bad1.map sv), h) := fun _ _ _ => rfl
 have b4 : ∀ (vars env : List AV) (h : List AO), evOp (callW F) vars env h (.bslice 1 [(.string ⟨#[]⟩)] 4 [(0, (.k (.string ⟨#[44]⟩))), (1, (.k (.string ⟨#[59]⟩))), (2, (.k (.string ⟨#[45, 62]⟩))), (3, (.k (.string ⟨#[58, 45]⟩)))]) = some (.slc 1 true true (bad2.map sv), h) := fun _ _ _ => rfl
 have p3 := hasS_ok (.slc true true (bad1.map sv)) (by decide) s
 have p4 := hasS_ok (.slc true true (bad2.map sv)) (by decide) s
 have s3 : ∀ h : List AO, (AV.slc 1 true true (bad1.map sv)).snap1 h = some (.slc 1 true true (bad1.map sv)) := fun _ => rfl
 have s4 : ∀ h : List AO, (AV.slc 1 true true (bad2.map sv)).snap1 h = some (.slc 1 true true (bad2.map sv)) := fun _ => rfl
 generalize bad1.map sv = B1 at b3 p3 s3
 generalize bad2.map sv = B2 at b4 p4 s4
 unfold goalB
 simp only [Tm.k, Tm.s, Tm.l]
 generalize hasS bad1 s = G1 at p3
 generalize hasS bad2 s = G2 at p4
 generalize hA : (k == 2) = A
 generalize hB : (k == 4) = B
 by_cases l1 : l.length = 1
 ·have e1 : ((l.length : Int) == 1) = true := by simp [l1]
  simp only [l1, if_true]
  rw [l1] at q1 e1
  cases A <;> cases B <;> simp only [c56, start, List.replicate, c56_0, c56_1, c56_2, c56_3, c56_4, c56_5, tbx, tb0, tb1, tb2, tb3, q1, b3, p3, s3, snap_str, hA, hB, e1, Q122, Bool.true_and, Bool.false_and, Bool.or_true, Bool.true_or, Bool.or_self, Q0, Q1, Q2, Q3, Q4, Q5, Q6, Q7, Q8, Q9, Q10, Q11, Q12, Q13, Q14, Q15, Q16, Q17, Q18, Q19, Q20, Q21, Q22, Q23, Q24, Q25, Q26, Q27, Q28, Q29, Q30, Q31, Q32, Q33, Q35, Q36, Q37, Q38, Q39, Q40, Q41, Q42, Q43, Q44, Q45, Q46, Q47, Q48, Q49, Q50, Q51, Q52, Q53, Q54, Q55, Q56, Q57, Q58, Q59, Q60, Q61, Q62, Q63, Q64, Q65, Q66, Q67, Q68, Q69, Q70, Q71, Q72, Q73, Q99, Q100, Q101, Q102, Q103, Q74, Q75, Q77, Q78, Q79, Q80, Q81, Q82, Q83, Q84, clr, List.length_nil, List.length_cons, List.getElem?_cons_zero, List.getElem?_cons_succ, Nat.reduceAdd, Nat.zero_add, Nat.add_zero, Nat.reduceLeDiff, Nat.reduceSub, ↓reduceIte, List.drop_succ_cons, List.drop_zero, List.take_succ_cons, List.take_zero, Bool.false_eq_true, List.nil_append, List.cons_append, Bool.not_true, Bool.not_false, cond_true, cond_false, bne, Q85, Q86, Q87, Q88, Q89, Q90, Q91, Q92, Q93, Q94, Q95, Q96, Q97, Q98, Q110, Q111, Q116, Q117, Q118, Q119, Q120, Q121, Q122, Q123, Option.map_some, Option.map_none]
  all_goals first | rfl | skip
 ·have e1 : ((l.length : Int) == 1) = false := by simp; omega
  simp only [l1, if_false]
  by_cases l2 : l.length = 2
  ·have e2 : ((l.length : Int) == 2) = true := by simp [l2]
   simp only [l2, if_true]
   rw [l2] at q1 e1 e2
   cases A <;> cases B <;> simp only [c56, start, List.replicate, c56_0, c56_1, c56_2, c56_3, c56_4, c56_6, c56_7, tbx, tb0, tb1, tb2, tb3, q1, b4, p4, s4, snap_str, hA, hB, e1, e2, Q122, Bool.true_and, Bool.false_and, Bool.or_true, Bool.true_or, Bool.or_self, Q0, Q1, Q2, Q3, Q4, Q5, Q6, Q7, Q8, Q9, Q10, Q11, Q12, Q13, Q14, Q15, Q16, Q17, Q18, Q19, Q20, Q21, Q22, Q23, Q24, Q25, Q26, Q27, Q28, Q29, Q30, Q31, Q32, Q33, Q35, Q36, Q37, Q38, Q39, Q40, Q41, Q42, Q43, Q44, Q45, Q46, Q47, Q48, Q49, Q50, Q51, Q52, Q53, Q54, Q55, Q56, Q57, Q58, Q59, Q60, Q61, Q62, Q63, Q64, Q65, Q66, Q67, Q68, Q69, Q70, Q71, Q72, Q73, Q99, Q100, Q101, Q102, Q103, Q74, Q75, Q77, Q78, Q79, Q80, Q81, Q82, Q83, Q84, clr, List.length_nil, List.length_cons, List.getElem?_cons_zero, List.getElem?_cons_succ, Nat.reduceAdd, Nat.zero_add, Nat.add_zero, Nat.reduceLeDiff, Nat.reduceSub, ↓reduceIte, List.drop_succ_cons, List.drop_zero, List.take_succ_cons, List.take_zero, Bool.false_eq_true, List.nil_append, List.cons_append, Bool.not_true, Bool.not_false, cond_true, cond_false, bne, Q85, Q86, Q87, Q88, Q89, Q90, Q91, Q92, Q93, Q94, Q95, Q96, Q97, Q98, Q110, Q111, Q116, Q117, Q118, Q119, Q120, Q121, Q122, Q123, Option.map_some, Option.map_none]
   all_goals first | rfl | skip
  ·have e2 : ((l.length : Int) == 2) = false := by simp; omega
   simp only [l2, if_false]
   cases A <;> cases B <;> simp only [c56, start, List.replicate, c56_0, c56_1, c56_2, c56_3, c56_4, c56_6, c56_8, tbx, tb0, tb1, tb2, tb3, q1, hA, hB, e1, e2, Q122, Bool.true_and, Bool.false_and, Bool.or_true, Bool.true_or, Bool.or_self, Bool.and_true, Q0, Q1, Q2, Q3, Q4, Q5, Q6, Q7, Q8, Q9, Q10, Q11, Q12, Q13, Q14, Q15, Q16, Q17, Q18, Q19, Q20, Q21, Q22, Q23, Q24, Q25, Q26, Q27, Q28, Q29, Q30, Q31, Q32, Q33, Q35, Q36, Q37, Q38, Q39, Q40, Q41, Q42, Q43, Q44, Q45, Q46, Q47, Q48, Q49, Q50, Q51, Q52, Q53, Q54, Q55, Q56, Q57, Q58, Q59, Q60, Q61, Q62, Q63, Q64, Q65, Q66, Q67, Q68, Q69, Q70, Q71, Q72, Q73, Q99, Q100, Q101, Q102, Q103, Q74, Q75, Q77, Q78, Q79, Q80, Q81, Q82, Q83, Q84, clr, List.length_nil, List.length_cons, List.getElem?_cons_zero, List.getElem?_cons_succ, Nat.reduceAdd, Nat.zero_add, Nat.add_zero, Nat.reduceLeDiff, Nat.reduceSub, ↓reduceIte, List.drop_succ_cons, List.drop_zero, List.take_succ_cons, List.take_zero, Bool.false_eq_true, List.nil_append, List.cons_append, Bool.not_true, Bool.not_false, cond_true, cond_false, bne, Q85, Q86, Q87, Q88, Q89, Q90, Q91, Q92, Q93, Q94, Q95, Q96, Q97, Q98, Q110, Q111, Q116, Q117, Q118, Q119, Q120, Q121, Q122, Q123, Option.map_some, Option.map_none]
   all_goals first | rfl | skip
end Go.AE.YtinhjhkmpknbbaaDoor
end

section
namespace Go.AE.YtinhjhkmpknbbaaDoor
open Go Go.AE Go.Proofs.YtinhjhkmpknbbaaDoor

inductive Bo (H : List AO) : AV → List AV → Prop
 | slc (es : List AV) (hne : es ≠ []) : Bo H (.slc 4 true true es) es
 | own (id ver : Nat) (es : List AV) (hr : H[id]? = some (.row 24 4 ver es 0)) (hne : es ≠ []) : Bo H (.own 4 id ver 0 es.length) es
section
variable {H : List AO} {r : AV} {es : List AV}
theorem Bo.app (h : Bo H r es) (l : List AO) : Bo (H ++ l) r es := by
 cases h with
 | slc es hne => exact .slc _ hne
 | own id ver es hr hne => exact .own id ver _ (his_get hr) hne
theorem Bo.elems (h : Bo H r es) : elemsOf H 4 r = some es := by
 cases h with
 | slc es hne => rfl
 | own id ver es hr hne => simp [elemsOf, rowAt, hr]
theorem Bo.len (h : Bo H r es) (H' : List AO) : evLen H' .slice r = some es.length := by
 cases h <;> rfl
theorem Bo.at (h : Bo H r es) {i : Nat} {e : AV} (he : es[i]? = some e) (hE : El true 4 e) : ∃ p, iaV H 4 r (some i) = some p ∧ Q76 H true 4 p = some e := by
 cases h with
 | slc es hne => exact ⟨_, iaV_slc he, hE.ld H⟩
 | own id ver es hr hne => exact ⟨_, row_ia hr (Nat.le_refl _) (List.getElem?_eq_some_iff.1 he).1, row_ld hr he hE⟩
theorem Bo.lvf (h : Bo H r es) : ∃ c, c.frz0 0 H = some c ∧ r.frz0 0 H = some c ∧ Sl 4 c es := by
 cases h with
 | slc es hne => exact ⟨_, rfl, rfl, .slc _ _ _⟩
 | own id ver es hr hne => exact ⟨.slc 4 false false es, rfl, by simp [AV.frz0, rowAt, hr], .slc _ _ _⟩
theorem ok_sh0 (n : Nat) (x : AV) : (x.sh0 n).ok0 = x.ok0 := by cases x <;> rfl
theorem ok_sh1 (n : Nat) (x : AV) : (x.sh1 n).ok1 = x.ok1 := by
 cases x with
 | agg cs => simp only [AV.sh1, AV.ok1, List.all_map]; congr 1; funext y; exact ok_sh0 n y
 | fn f a b =>
  simp only [AV.sh1, AV.ok1, List.all_map]
  have : (AV.ok0 ∘ AV.sh0 n) = AV.ok0 := by funext y; exact ok_sh0 n y
  rw [this]
 | _ => rfl
theorem ok_sh (n : Nat) (o : AO) : (o.sh n).ok = o.ok := by
 cases o with
 | box t cs => simp only [AO.sh, AO.ok, List.all_map]; congr 1; funext y; exact ok_sh1 n y
 | _ => rfl
theorem ok_all (n : Nat) {k : List AO} (h : k.all AO.ok = true) : (k.map (AO.sh n)).all AO.ok = true := by
 rw [List.all_map]
 have : (AO.ok ∘ AO.sh n) = AO.ok := by funext y; exact ok_sh n y
 rw [this]; exact h
theorem ok_term {a : AV} {t : Tm} (ha : IsT a t) (bt : TypeId) : AO.ok (.box bt a.cells) = true := by
 cases ha with
 | mk k s n c l hc => cases hc <;> rfl
theorem Bo.add {r' : AV} {es' : List AV} (h : Bo H r es) (h' : Bo H r' es') (hf : es.length + es'.length ≤ 1000000) (hok : H.all AO.ok = true) :
  ∃ r2 H2, evAppend H 24 4 56 r r' = some (r2, H2) ∧ Bo H2 r2 (es ++ es') ∧ H2.all AO.ok = true ∧ r2.ok2 = true := by
 have he' := h'.elems
 have hne' : es' ≠ [] := by cases h' <;> assumption
 have fit : fits (es.length + es'.length) 56 = true := fits_small hf (by omega)
 cases h with
 | slc es hne =>
  refine ⟨.own 4 H.length 0 0 (es.length + es'.length), H ++ [.row 24 4 0 (es ++ es') 0], ?_, ?_, ?_, rfl⟩
  ·simp [evAppend, he', evAppendL, hne', fit]
  ·have := Bo.own (H := H ++ [.row 24 4 0 (es ++ es') 0]) H.length 0 (es ++ es') (by simp) (by simp [hne])
   rwa [List.length_append] at this
  ·rw [List.all_append, hok]; rfl
 | own id ver es hr hne =>
  have hlt := (List.getElem?_eq_some_iff.1 hr).1
  have ht : rowT H id = 24 := by simp only [rowT, hr]
  refine ⟨.own 4 id (ver + 1) 0 (es.length + es'.length), H.set id (.row 24 4 (ver + 1) (es ++ es') 0), ?_, ?_, ?_, rfl⟩
  ·simp [evAppend, he', evAppendL, rowAt, hr, ht, hne', fit]
  ·have := Bo.own (H := H.set id (.row 24 4 (ver + 1) (es ++ es') 0)) id (ver + 1) (es ++ es') (by simp [hlt]) (by simp [hne])
   rwa [List.length_append] at this
  ·rw [List.all_eq_true] at hok ⊢
   intro o ho
   rcases List.mem_or_eq_of_mem_set ho with h | rfl
   ·exact hok o h
   ·rfl
end
theorem All2.app' : ∀ {es es' : List AV} {l l' : List Tm}, All2 es l → All2 es' l' → All2 (es ++ es') (l ++ l')
 | _, _, _, _, .nil, h => h
 | _, _, _, _, .cons a t es ts h hs, h' => .cons a t _ _ h (All2.app' hs h')
mutual
theorem bod_len : ∀ t : Tm, (bodT t).length ≤ zT t
 | .mk k s n l => by
  have := bodL_len l
  rw [bodT, zT]
  split
  ·omega
  ·simp
theorem bodL_len : ∀ l : List Tm, (bodL l).length ≤ zL l
 | [] => by simp [bodL, zL]
 | t :: l => by
  have := bod_len t
  have := bodL_len l
  rw [bodL, zL, List.length_append]; omega
end
theorem leave_k1 {c : CFun} {vars : List AV} {H : List AO} {i : Nat} (hc : c.res = [.var i]) : leaveKeep c (some (.ret, vars, H)) = some (vars.getD i .junk, H) := by
 simp only [leaveKeep, hc, List.mapM_cons, List.mapM_nil, resOf, Option.pure_def, Option.bind_eq_bind, Option.bind_some, Option.map_some, pack]
theorem body_ok : ∀ (N : Nat) (t : Tm) (a : AV), SizeOf.sizeOf t < N → zT t ≤ 450000 → IsT a t → ∀ h : List AO, ∃ r X es, callW F 83 [a] h = some (r, h ++ X) ∧ X.all AO.ok = true ∧ Bo (h ++ X) r es ∧ All2 es (bodT t) := by
 intro N
 induction N with
 | zero => intro t a h; omega
 | succ N ih =>
  intro t a hN hz ha
  have key : ∃ r k es, leaveKeep c83 (exec (callW F) 0 c83.body (start c83 [a]) []) = some (r, k) ∧ r.ok2 = true ∧ k.all AO.ok = true ∧ Bo k r es ∧ All2 es (bodT t) := by
   have hf := ha.facts
   have hi := is_ok ha comma 2
   rw [isB_2] at hi
   have e1 : Q76 [.box 24 a.cells] true 4 (.ptr 0 0) = some a := hf.2.2.2.1 [] 24
   have bxa : bx [] 24 (some a.cells) = some (.ptr 0 0, [.box 24 a.cells]) := rfl
   cases h2 : is2 t comma with
   | false =>
    rw [h2] at hi
    have b1 : ∀ h : List AO, bs1 h 4 (some a) = some (.slc 4 true true [a], h) := fun h => bs1_some ha.cl.1 ha.cl.2
    have hb : bodT t = [t] := by
     cases t with | mk k s n l =>
     rw [bodT, if_neg]
     rintro ⟨p1, p2, p3⟩
     have := (is2_iff (t := .mk k s n l) (s := comma)).2 ⟨p1, p2, p3⟩
     rw [this] at h2; cases h2
    refine ⟨.slc 4 true true [a], [.box 24 a.cells], [a], ?_, rfl, by simp [ok_term ha], .slc _ (by simp), by rw [hb]; exact .cons a t [] [] ha .nil⟩
    have body : exec (callW F) 0 c83.body (start c83 [a]) [] = some (.ret, [a, .ptr 0 0, .slc 4 true true [a], .v (.bool false)], [.box 24 a.cells]) := by
     simp only [c83, start, List.replicate, c83_0, c83_1, c83_3, bxa, e1, hf, hi, snap_str, snap_int, b1, Q104, comma, Q0, Q1, Q2, Q3, Q4, Q5, Q6, Q7, Q8, Q9, Q10, Q11, Q12, Q13, Q14, Q15, Q16, Q17, Q18, Q19, Q20, Q21, Q22, Q23, Q24, Q25, Q26, Q27, Q28, Q29, Q30, Q31, Q32, Q33, Q35, Q36, Q37, Q38, Q39, Q40, Q41, Q42, Q43, Q44, Q45, Q46, Q47, Q48, Q49, Q50, Q51, Q52, Q53, Q54, Q55, Q56, Q57, Q58, Q59, Q60, Q61, Q62, Q63, Q64, Q65, Q66, Q67, Q68, Q69, Q70, Q71, Q72, Q73, Q99, Q100, Q101, Q102, Q103, Q74, Q75, Q77, Q78, Q79, Q80, Q81, Q82, Q83, Q84, clr, List.length_nil, List.length_cons, List.getElem?_cons_zero, List.getElem?_cons_succ, Nat.reduceAdd, Nat.zero_add, Nat.add_zero, Nat.reduceLeDiff, Nat.reduceSub, ↓reduceIte, List.drop_succ_cons, List.drop_zero, List.take_succ_cons, List.take_zero, Bool.false_eq_true, List.nil_append, List.cons_append, Bool.not_true, Bool.not_false, cond_true, cond_false, bne, Q85, Q86, Q87, Q88, Q89, Q90, Q91, Q92, Q93, Q94, Q95, Q96, Q97, Q98, Q110, Q111, Q116, Q117, Q118, Q119, Q120, Q121, Q122, Q123, Option.map_some, Option.map_none, Q34] at hi ⊢
    rw [body]
    exact leave_k1 (c := c83) (i := 2) rfl
   | true =>
    rw [h2] at hi
    obtain ⟨hk, hs, hl⟩ := is2_iff.1 h2
    cases t with | mk k s n l =>
    simp only [Tm.k, Tm.s, Tm.l] at hk hs hl
    cases ha with
    | mk k s n c l hc =>
    obtain ⟨es, hs', hes, hm⟩ := hc.sl
    have hll := hes.length
    match l, es, hl, hes, hll with
    | [x, y], [ex, ey], _, hes, hll =>
    have hx := hes.at (i := 0) (by simp) (by simp)
    have hy := hes.at (i := 1) (by simp) (by simp)
    simp only [List.getElem_cons_zero, List.getElem_cons_succ] at hx hy
    have sx := Tm.mk.sizeOf_spec k s n [x, y]
    simp only [List.cons.sizeOf_spec, List.nil.sizeOf_spec] at sx
    simp only [zT, zL] at hz
    obtain ⟨r1, X1, es1, g1, o1, B1, A1⟩ := ih x ex (by omega) (by omega) hx [.box 24 [.v (.int .i64 k), .v (.string s), .v (.int .i64 n), c]]
    obtain ⟨r2, X2, es2, g2, o2, B2, A2⟩ := ih y ey (by omega) (by omega) hy ([.box 24 [.v (.int .i64 k), .v (.string s), .v (.int .i64 n), c]] ++ X1)
    have l1 := bod_len x
    have l2 := bod_len y
    have n1 := A1.length
    have n2 := A2.length
    have okH : (([.box 24 [.v (.int .i64 k), .v (.string s), .v (.int .i64 n), c]] ++ X1) ++ X2 : List AO).all AO.ok = true := by
     have := ok_term (.mk k s n c [x, y] hc) 24
     simp only [AV.cells] at this
     simp [List.all_append, o1, o2, this]
    obtain ⟨r3, H3, g3, B3, o3, q3⟩ := (B1.app X2).add B2 (by omega) okH
    have hb : bodT (.mk k s n [x, y]) = bodT x ++ bodT y := by
     rw [bodT, if_pos ⟨hk, hs, rfl⟩, bodL, bodL, bodL, List.append_nil]
    refine ⟨r3, H3, es1 ++ es2, ?_, q3, o3, B3, by rw [hb]; exact All2.app' A1 A2⟩
    have fx := hx.facts
    have fy := hy.facts
    have i0 := fun H : List AO => hs'.ia (i := 0) rfl H
    have i1 := fun H : List AO => hs'.ia (i := 1) rfl H
    have ld3 : ∀ X : List AO, Q76 ([.box 24 [.v (.int .i64 k), .v (.string s), .v (.int .i64 n), c]] ++ X) false 1 (.ptr 0 3) = some c := fun _ => rfl
    have n0 : natV (.v (.int .i64 0)) = some 0 := rfl
    have n1 : natV (.v (.int .i64 1)) = some 1 := rfl
    have ld30 := ld3 []
    rw [List.append_nil] at ld30
    have body : exec (callW F) 0 c83.body (start c83 [.agg [.v (.int .i64 k), .v (.string s), .v (.int .i64 n), c]]) [] = some (.ret, [.agg [.v (.int .i64 k), .v (.string s), .v (.int .i64 n), c], .ptr 0 0, r3, .v (.bool true)], H3) := by
     simp only [AV.cells] at bxa e1 hf
     simp only [comma] at hi
     generalize hG : [AO.box 24 [.v (.int .i64 k), .v (.string s), .v (.int .i64 n), c]] = G at *
     simp only [c83, start, List.replicate, c83_0, c83_1, c83_2, bxa, e1, hf, hi, snap_str, snap_int, ld3, ld30, i0, i1, n0, n1, fx, fy, e_callh, List.map_cons, List.map_nil, g1, g2, e_append, g3, Q0, Q1, Q2, Q3, Q4, Q5, Q6, Q7, Q8, Q9, Q10, Q11, Q12, Q13, Q14, Q15, Q16, Q17, Q18, Q19, Q20, Q21, Q22, Q23, Q24, Q25, Q26, Q27, Q28, Q29, Q30, Q31, Q32, Q33, Q35, Q36, Q37, Q38, Q39, Q40, Q41, Q42, Q43, Q44, Q45, Q46, Q47, Q48, Q49, Q50, Q51, Q52, Q53, Q54, Q55, Q56, Q57, Q58, Q59, Q60, Q61, Q62, Q63, Q64, Q65, Q66, Q67, Q68, Q69, Q70, Q71, Q72, Q73, Q99, Q100, Q101, Q102, Q103, Q74, Q75, Q77, Q78, Q79, Q80, Q81, Q82, Q83, Q84, clr, List.length_nil, List.length_cons, List.getElem?_cons_zero, List.getElem?_cons_succ, Nat.reduceAdd, Nat.zero_add, Nat.add_zero, Nat.reduceLeDiff, Nat.reduceSub, ↓reduceIte, List.drop_succ_cons, List.drop_zero, List.take_succ_cons, List.take_zero, Bool.false_eq_true, List.nil_append, List.cons_append, Bool.not_true, Bool.not_false, cond_true, cond_false, bne, Q85, Q86, Q87, Q88, Q89, Q90, Q91, Q92, Q93, Q94, Q95, Q96, Q97, Q98, Q110, Q111, Q116, Q117, Q118, Q119, Q120, Q121, Q122, Q123, Option.map_some, Option.map_none, Q34]
    rw [body]
    exact leave_k1 (c := c83) (i := 2) rfl
  obtain ⟨r, k, es, g1, g2, g3, g4, g5⟩ := key
  intro h
  have sn : [a].mapM (AV.snap1 h) = some [a] := by simp [ha.snap]
  have q := callW_pk (F := F) (h := h) (c := c83) (f := 83) rfl sn rfl 0 g1 g2 g3
  refine ⟨_, _, es, q, ok_all _ g3, ?_, g5⟩
  cases g4 with
  | slc es hne => exact .slc es hne
  | own id ver es hr hne =>
   refine .own (h.length + id) ver es ?_ hne
   rw [List.getElem?_append_right (by omega), Nat.add_sub_cancel_left, List.getElem?_map, hr]
   rfl
end Go.AE.YtinhjhkmpknbbaaDoor
end

section
namespace Go.AE.YtinhjhkmpknbbaaDoor
open Go Go.AE Go.Proofs.YtinhjhkmpknbbaaDoor

mutual
theorem zT_size : ∀ t : Tm, zT t = size t
 | .mk k s n l => by rw [zT, size, zL_size l]
theorem zL_size : ∀ l : List Tm, zL l = sizeL l
 | [] => by rw [zL, sizeL]
 | t :: l => by rw [zL, sizeL, zT_size t, zL_size l]
end
mutual
theorem occ_places : ∀ t : Tm, placesT t = occT t
 | .mk k s n l => by
  rw [placesT, occT, occL_places l]
  split <;> rfl
theorem occL_places : ∀ l : List Tm, placesL l = occL l
 | [] => by rw [placesL, occL]
 | t :: l => by rw [placesL, occL, occ_places t, occL_places l]
end
theorem vars_eq (t : Tm) : varsT t = varT t := by rw [varsT, varT, occ_places]; rfl

def goalsE (t : Tm) : Int := if checkT t = 0 then (if (bodT t).all goalB then 0 else 80) else checkT t
def K55 : List Bool := [false, false, false, false, false, true, false, false, true, true, true, false, false]
def V55 (r : AV) (n i : Int) (x6 x11 x12 : AV) : List AV := [.junk, .junk, .junk, .junk, .junk, r, x6, .junk, r, .v (.int .i64 n), .v (.int .i64 i), x11, x12]
theorem goals_loop {K : Nat} {H : List AO} {r : AV} {es : List AV} {l : List Tm} (hB : Bo H r es) (hes : All2 es l) (hm : es.length ≤ 450000) :
  ∀ (d i : Nat) (Y : List AO) (vars : List AV), i + d = es.length → clr K55 vars = V55 r es.length i .junk .junk .junk →
   ((l.drop i).all goalB = true ∧ ∃ Y' x6 x12, loopN (exec (callW F) K c55_11) K55 (d + 1) vars (H ++ Y) = some (.exit 0, V55 r es.length es.length x6 (.v (.bool false)) x12, H ++ Y')) ∨
   ((l.drop i).all goalB = false ∧ ∃ vs h', loopN (exec (callW F) K c55_11) K55 (d + 1) vars (H ++ Y) = some (.ret, vs, h') ∧ getO vs [] (.var 2) = .v (.slice none 0 0) ∧ getO vs [] (.var 3) = .v (.int .i64 80)) := by
 have hll := hes.length
 intro d
 induction d with
 | zero =>
  intro i Y vars hi hv
  have hil : i = es.length := by omega
  subst hil
  have hlt := lt_f (n := es.length)
  left
  refine ⟨by rw [List.drop_of_length_le (by omega)]; rfl, Y, .junk, .junk, loop_exit ?_⟩
  rw [hv]
  simp only [V55, c55_11, c55_6, hlt, Q0, Q1, Q2, Q3, Q4, Q5, Q6, Q7, Q8, Q9, Q10, Q11, Q12, Q13, Q14, Q15, Q16, Q17, Q18, Q19, Q20, Q21, Q22, Q23, Q24, Q25, Q26, Q27, Q28, Q29, Q30, Q31, Q32, Q33, Q35, Q36, Q37, Q38, Q39, Q40, Q41, Q42, Q43, Q44, Q45, Q46, Q47, Q48, Q49, Q50, Q51, Q52, Q53, Q54, Q55, Q56, Q57, Q58, Q59, Q60, Q61, Q62, Q63, Q64, Q65, Q66, Q67, Q68, Q69, Q70, Q71, Q72, Q73, Q99, Q100, Q101, Q102, Q103, Q74, Q75, Q77, Q78, Q79, Q80, Q81, Q82, Q83, Q84, clr, List.length_nil, List.length_cons, List.getElem?_cons_zero, List.getElem?_cons_succ, Nat.reduceAdd, Nat.zero_add, Nat.add_zero, Nat.reduceLeDiff, Nat.reduceSub, ↓reduceIte, List.drop_succ_cons, List.drop_zero, List.take_succ_cons, List.take_zero, Bool.false_eq_true, List.nil_append, List.cons_append, Bool.not_true, Bool.not_false, cond_true, cond_false, bne, Q85, Q86, Q87, Q88, Q89, Q90, Q91, Q92, Q93, Q94, Q95, Q96, Q97, Q98, Q110, Q111, Q116, Q117, Q118, Q119, Q120, Q121, Q122, Q123, Option.map_some, Option.map_none, Q34]
 | succ d ih =>
  intro i Y vars hi hv
  have hil : i < es.length := by omega
  have hil' : i < l.length := by omega
  have hT := hes.at hil hil'
  have he : es[i]? = some es[i] := List.getElem?_eq_getElem hil
  obtain ⟨p, p1, p2⟩ := (hB.app Y).at he hT.elm
  have hf := hT.facts
  have hg := goal_ok hT
  have hlt := lt_t hil
  have hmax : es.length ≤ maxLen := small_maxM hm
  have hw := wrap_succ hil hmax
  have hd : l.drop i = l[i] :: l.drop (i + 1) := List.drop_eq_getElem_cons hil'
  rw [hd, List.all_cons]
  have q9 : ∀ h : List AO, bx h 24 (ofVal (.agg #[(.int .i64 0), (.string ⟨#[]⟩), (.int .i64 0), (.slice none 0 0)])).cl = some (.ptr h.length 0, h ++ [.box 24 [.v (.int .i64 0), .v (.string ⟨#[]⟩), .v (.int .i64 0), .v (.slice none 0 0)]]) := fun h => by rw [q9z]; rfl
  cases hgb : goalB l[i] with
  | true =>
   rw [hgb] at hg
   have st : exec (callW F) K c55_11 (V55 r es.length i .junk .junk .junk) (H ++ Y) = some (.normal, V55 r es.length ((i + 1 : Nat) : Int) (.ptr (H ++ Y).length 0) (.v (.bool true)) (.v (.bool false)), H ++ (Y ++ [.box 24 es[i].cells])) := by
    rw [← List.append_assoc]
    simp only [V55, c55_11, c55_6, c55_7, c55_8, c55_10, hlt, hw, p1, p2, hf, hg, q9, Q0, Q1, Q2, Q3, Q4, Q5, Q6, Q7, Q8, Q9, Q10, Q11, Q12, Q13, Q14, Q15, Q16, Q17, Q18, Q19, Q20, Q21, Q22, Q23, Q24, Q25, Q26, Q27, Q28, Q29, Q30, Q31, Q32, Q33, Q35, Q36, Q37, Q38, Q39, Q40, Q41, Q42, Q43, Q44, Q45, Q46, Q47, Q48, Q49, Q50, Q51, Q52, Q53, Q54, Q55, Q56, Q57, Q58, Q59, Q60, Q61, Q62, Q63, Q64, Q65, Q66, Q67, Q68, Q69, Q70, Q71, Q72, Q73, Q99, Q100, Q101, Q102, Q103, Q74, Q75, Q77, Q78, Q79, Q80, Q81, Q82, Q83, Q84, clr, List.length_nil, List.length_cons, List.getElem?_cons_zero, List.getElem?_cons_succ, Nat.reduceAdd, Nat.zero_add, Nat.add_zero, Nat.reduceLeDiff, Nat.reduceSub, ↓reduceIte, List.drop_succ_cons, List.drop_zero, List.take_succ_cons, List.take_zero, Bool.false_eq_true, List.nil_append, List.cons_append, Bool.not_true, Bool.not_false, cond_true, cond_false, bne, Q85, Q86, Q87, Q88, Q89, Q90, Q91, Q92, Q93, Q94, Q95, Q96, Q97, Q98, Q110, Q111, Q116, Q117, Q118, Q119, Q120, Q121, Q122, Q123, Option.map_some, Option.map_none]
   rw [loop_normal (by rw [hv]; exact st), Bool.true_and]
   exact ih (i + 1) _ _ (by omega) rfl
  | false =>
   rw [hgb] at hg
   right
   refine ⟨rfl, [.junk, .junk, .v (.slice none 0 0), .v (.int .i64 80), .junk, r, .ptr (H ++ Y).length 0, .junk, r, .v (.int .i64 es.length), .v (.int .i64 i), .v (.bool true), .v (.bool true)], (H ++ Y) ++ [.box 24 es[i].cells], loop_ret ?_, rfl, rfl⟩
   rw [hv]
   simp only [V55, c55_11, c55_6, c55_7, c55_8, c55_9, hlt, hw, p1, p2, hf, hg, q9, Q0, Q1, Q2, Q3, Q4, Q5, Q6, Q7, Q8, Q9, Q10, Q11, Q12, Q13, Q14, Q15, Q16, Q17, Q18, Q19, Q20, Q21, Q22, Q23, Q24, Q25, Q26, Q27, Q28, Q29, Q30, Q31, Q32, Q33, Q35, Q36, Q37, Q38, Q39, Q40, Q41, Q42, Q43, Q44, Q45, Q46, Q47, Q48, Q49, Q50, Q51, Q52, Q53, Q54, Q55, Q56, Q57, Q58, Q59, Q60, Q61, Q62, Q63, Q64, Q65, Q66, Q67, Q68, Q69, Q70, Q71, Q72, Q73, Q99, Q100, Q101, Q102, Q103, Q74, Q75, Q77, Q78, Q79, Q80, Q81, Q82, Q83, Q84, clr, List.length_nil, List.length_cons, List.getElem?_cons_zero, List.getElem?_cons_succ, Nat.reduceAdd, Nat.zero_add, Nat.add_zero, Nat.reduceLeDiff, Nat.reduceSub, ↓reduceIte, List.drop_succ_cons, List.drop_zero, List.take_succ_cons, List.take_zero, Bool.false_eq_true, List.nil_append, List.cons_append, Bool.not_true, Bool.not_false, cond_true, cond_false, bne, Q85, Q86, Q87, Q88, Q89, Q90, Q91, Q92, Q93, Q94, Q95, Q96, Q97, Q98, Q110, Q111, Q116, Q117, Q118, Q119, Q120, Q121, Q122, Q123, Option.map_some, Option.map_none]
theorem goals_ok {t : Tm} {a : AV} (ha : IsT a t) (hz : zT t ≤ 450000) : ∃ c, callW F 55 [a] [] = some (.tup [c, .v (.int .i64 (goalsE t))], []) ∧ (goalsE t = 0 → IsL c (bodT t)) := by
 have hck := rcheck_ok t a ha
 have hf := ha.facts
 have e1 : Q76 [.box 24 a.cells] true 4 (.ptr 0 0) = some a := hf.2.2.2.1 [] 24
 have bxa : bx [] 24 (some a.cells) = some (.ptr 0 0, [.box 24 a.cells]) := rfl
 unfold goalsE
 by_cases hc : checkT t = 0
 ·rw [hc] at hck
  simp only [hc, if_true]
  obtain ⟨r, X, es, g1, g2, g3, g4⟩ := body_ok _ t a (Nat.lt_succ_self _) hz ha [.box 24 a.cells]
  have hll := g4.length
  have hbl := bod_len t
  have key := goals_loop (K := es.length + 1) g3 g4 (by omega) es.length 0 [] [a, .ptr 0 0, .v (.slice none 0 0), .v (.int .i64 0), .v (.int .i64 0), r, .v undef, .v (.bool false), r, .v (.int .i64 es.length), .v (.int .i64 0), .v undef, .v undef] (by omega) rfl
  rw [List.append_nil, List.drop_zero] at key
  have ln := fun H' : List AO => g3.len H'
  have body : ∀ {e : AXit} {vs : List AV} {h' : List AO}, loopN (exec (callW F) (es.length + 1) c55_11) K55 (es.length + 1) [a, .ptr 0 0, .v (.slice none 0 0), .v (.int .i64 0), .v (.int .i64 0), r, .v undef, .v (.bool false), r, .v (.int .i64 es.length), .v (.int .i64 0), .v undef, .v undef] ([.box 24 a.cells] ++ X) = some (e, vs, h') →
    lv c55.res (exec (callW F) (es.length + 1) c55.body (start c55 [a]) []) = lv [.var 2, .var 3] (thn (callW F) (es.length + 1) (.seq (.region [] [] c55_12) .ret) (blk 0 (some (e, vs, h')))) := by
   intro e vs h' hloop
   rw [show c55.body = (.seq (.region [] [] c55_0) (.seq (.seq (.region [] [] c55_1) (.seq (.region [] [] c55_2) (.cond (.var 7) (.seq (.region [] [] c55_3) .ret) .skip))) (.seq (.region [] [] c55_4) (.seq (.seq (.region [] [] c55_5) (.block 0 (.loop K55 [] c55_11))) (.seq (.region [] [] c55_12) .ret))))) from rfl, show c55.res = [.var 2, .var 3] from rfl]
   generalize (CC.seq (.region [] [] c55_12) .ret) = rest
   generalize c55_11 = bb at hloop ⊢
   have n0 : ((0 : Int) == 0) = true := rfl
   simp only [c55, start, List.replicate, c55_0, c55_1, c55_2, c55_4, c55_5, bxa, e1, hf, hck, n0, e_callh, List.map_cons, List.map_nil, g1, ln, hloop, List.singleton_append, Q0, Q1, Q2, Q3, Q4, Q5, Q6, Q7, Q8, Q9, Q10, Q11, Q12, Q13, Q14, Q15, Q16, Q17, Q18, Q19, Q20, Q21, Q22, Q23, Q24, Q25, Q26, Q27, Q28, Q29, Q30, Q31, Q32, Q33, Q35, Q36, Q37, Q38, Q39, Q40, Q41, Q42, Q43, Q44, Q45, Q46, Q47, Q48, Q49, Q50, Q51, Q52, Q53, Q54, Q55, Q56, Q57, Q58, Q59, Q60, Q61, Q62, Q63, Q64, Q65, Q66, Q67, Q68, Q69, Q70, Q71, Q72, Q73, Q99, Q100, Q101, Q102, Q103, Q74, Q75, Q77, Q78, Q79, Q80, Q81, Q82, Q83, Q84, clr, List.length_nil, List.length_cons, List.getElem?_cons_zero, List.getElem?_cons_succ, Nat.reduceAdd, Nat.zero_add, Nat.add_zero, Nat.reduceLeDiff, Nat.reduceSub, ↓reduceIte, List.drop_succ_cons, List.drop_zero, List.take_succ_cons, List.take_zero, Bool.false_eq_true, List.nil_append, List.cons_append, Bool.not_true, Bool.not_false, cond_true, cond_false, bne, Q85, Q86, Q87, Q88, Q89, Q90, Q91, Q92, Q93, Q94, Q95, Q96, Q97, Q98, Q110, Q111, Q116, Q117, Q118, Q119, Q120, Q121, Q122, Q123, Option.map_some, Option.map_none] at hloop ⊢
  rcases key with ⟨h1, Y', x6, x12, h2⟩ | ⟨h1, vs, h', h2, h3, h4⟩
  ·obtain ⟨c2, q1, q2, q3⟩ := (g3.app Y').lvf
   refine ⟨c2, callW_pure (c := c55) rfl rfl (es.length + 1) ?_, fun _ => Sl.isL q3 g4 (small_maxM (m := 450000) (by omega))⟩
   have f4 : lvf (.box 24 a.cells :: (X ++ Y')) (.tup [r, .v (.int .i64 0)]) = some (.tup [c2, .v (.int .i64 0)], []) := by
    have q4 : r.frz1 0 (.box 24 a.cells :: (X ++ Y')) = some c2 := by
     cases g3 <;> exact q2
    have fz : ∀ (x : Value) (h : List AO), (AV.v x).frz1 0 h = some (.v x) := fun _ _ => rfl
    simp only [lvf, AV.frz2, List.mapM_cons, List.mapM_nil, q4, fz, Option.pure_def, Option.bind_eq_bind, Option.bind_some, Option.map_some]
   rw [body h2, h1]
   simp only [V55, c55_12, f4, if_true, Q0, Q1, Q2, Q3, Q4, Q5, Q6, Q7, Q8, Q9, Q10, Q11, Q12, Q13, Q14, Q15, Q16, Q17, Q18, Q19, Q20, Q21, Q22, Q23, Q24, Q25, Q26, Q27, Q28, Q29, Q30, Q31, Q32, Q33, Q35, Q36, Q37, Q38, Q39, Q40, Q41, Q42, Q43, Q44, Q45, Q46, Q47, Q48, Q49, Q50, Q51, Q52, Q53, Q54, Q55, Q56, Q57, Q58, Q59, Q60, Q61, Q62, Q63, Q64, Q65, Q66, Q67, Q68, Q69, Q70, Q71, Q72, Q73, Q99, Q100, Q101, Q102, Q103, Q74, Q75, Q77, Q78, Q79, Q80, Q81, Q82, Q83, Q84, clr, List.length_nil, List.length_cons, List.getElem?_cons_zero, List.getElem?_cons_succ, Nat.reduceAdd, Nat.zero_add, Nat.add_zero, Nat.reduceLeDiff, Nat.reduceSub, ↓reduceIte, List.drop_succ_cons, List.drop_zero, List.take_succ_cons, List.take_zero, Bool.false_eq_true, List.nil_append, List.cons_append, Bool.not_true, Bool.not_false, cond_true, cond_false, bne, Q85, Q86, Q87, Q88, Q89, Q90, Q91, Q92, Q93, Q94, Q95, Q96, Q97, Q98, Q110, Q111, Q116, Q117, Q118, Q119, Q120, Q121, Q122, Q123, Option.map_some, Option.map_none]
  ·refine ⟨.v (.slice none 0 0), callW_pure (c := c55) rfl rfl (es.length + 1) ?_, ?_⟩
   ·rw [body h2, h1]
    simp only [Q18, Q14, Q85, Q88, Q90, Q89, h3, h4, Bool.false_eq_true, if_false]
    rfl
   ·rw [h1]; intro h; simp at h
 ·have hb : (checkT t == 0) = false := by simpa using hc
  refine ⟨.v (.slice none 0 0), callW_pure (c := c55) rfl rfl 0 ?_, fun h => absurd (by simp [hc] at h) hc⟩
  simp only [hc, if_false, c55, start, List.replicate, c55_0, c55_1, c55_2, c55_3, bxa, e1, hf, hck, hb, Q0, Q1, Q2, Q3, Q4, Q5, Q6, Q7, Q8, Q9, Q10, Q11, Q12, Q13, Q14, Q15, Q16, Q17, Q18, Q19, Q20, Q21, Q22, Q23, Q24, Q25, Q26, Q27, Q28, Q29, Q30, Q31, Q32, Q33, Q35, Q36, Q37, Q38, Q39, Q40, Q41, Q42, Q43, Q44, Q45, Q46, Q47, Q48, Q49, Q50, Q51, Q52, Q53, Q54, Q55, Q56, Q57, Q58, Q59, Q60, Q61, Q62, Q63, Q64, Q65, Q66, Q67, Q68, Q69, Q70, Q71, Q72, Q73, Q99, Q100, Q101, Q102, Q103, Q74, Q75, Q77, Q78, Q79, Q80, Q81, Q82, Q83, Q84, clr, List.length_nil, List.length_cons, List.getElem?_cons_zero, List.getElem?_cons_succ, Nat.reduceAdd, Nat.zero_add, Nat.add_zero, Nat.reduceLeDiff, Nat.reduceSub, ↓reduceIte, List.drop_succ_cons, List.drop_zero, List.take_succ_cons, List.take_zero, Bool.false_eq_true, List.nil_append, List.cons_append, Bool.not_true, Bool.not_false, cond_true, cond_false, bne, Q85, Q86, Q87, Q88, Q89, Q90, Q91, Q92, Q93, Q94, Q95, Q96, Q97, Q98, Q110, Q111, Q116, Q117, Q118, Q119, Q120, Q121, Q122, Q123, Option.map_some, Option.map_none]
  rfl

def headE (t : Tm) : Int := bif (!goalB t || builtB t.s t.l.length) then 80 else 0
def makeE (t : Tm) : Int :=
 if checkT t = 0 then
  if is2 (numT (varT t) t) neck = true then
   (if goalsE ((numT (varT t) t).l.getD 1 zeroT) = 0 then headE ((numT (varT t) t).l.getD 0 zeroT) else goalsE ((numT (varT t) t).l.getD 1 zeroT))
  else headE (numT (varT t) t)
 else checkT t
mutual
theorem num_size (vs : List Int) : ∀ t : Tm, zT (numT vs t) ≤ zT t
 | .mk k s n l => by
  have := numL_size vs l
  rw [numT]
  split <;> rw [zT, zT] <;> first | omega | (simp only [zL]; omega)
theorem numL_size (vs : List Int) : ∀ l : List Tm, zL (numL vs l) ≤ zL l
 | [] => by rw [numL]; exact Nat.le_refl _
 | t :: l => by
  have := num_size vs t
  have := numL_size vs l
  rw [numL, zL, zL]; omega
end
def zero6 : List AV := [.v (.int .i64 0), .v (.string ⟨#[]⟩), .v (.int .i64 0), .v (.slice none 0 0), .v (.slice none 0 0), .v (.int .i64 0)]
def mkH (k : Int) (s : ByteArray) (n : Int) (c : AV) (hk : Int) (hs : ByteArray) (hn : Int) (hc b : AV) (v : Int) : List AO :=
 [.box 24 [.v (.int .i64 k), .v (.string s), .v (.int .i64 n), c], .box 46 zero6, .box 46 [.v (.int .i64 hk), .v (.string hs), .v (.int .i64 hn), hc, b, .v (.int .i64 v)]]
def mkV (a q : AV) (x3 x7 x8 x11 : AV) (x10 : Bool) : List AV := [a, .ptr 0 0, .ptr 1 0, x3, .v (.int .i64 0), q, .ptr 2 0, x7, x8, .v (.bool false), .v (.bool x10), x11, .v undef]
def tailC : CC := .seq (.seq (.region [] [] c24_13) (.cond (.var 12) (.seq (.region [] [] c24_14) .ret) .skip)) (.seq (.region [] [] c24_15) .ret)
def Six (a : AV) : Prop := a.cl = some a.cells ∧ a.cells.length = 6
theorem make_tail {k : Int} {s : ByteArray} {n : Int} {c : AV} {hk : Int} {hs : ByteArray} {hn : Int} {hc b : AV} {v : Int} {hl bl : List Tm} (hhd : IsL hc hl) (hb : IsL b bl) (a q x3 x7 x8 x11 : AV) (x10 : Bool) :
  ∃ ca, Six ca ∧ lv [.cell 2 true 6, .var 3] (exec (callW F) 0 tailC (mkV a q x3 x7 x8 x11 x10) (mkH k s n c hk hs hn hc b v)) = some (.tup [ca, .v (.int .i64 (headE (.mk hk hs hn hl)))], []) ∧ (headE (.mk hk hs hn hl) = 0 → IsCl ca ⟨.mk hk hs hn hl, bl, v⟩) := by
 have hT : IsT (.agg [.v (.int .i64 hk), .v (.string hs), .v (.int .i64 hn), hc]) (.mk hk hs hn hl) := .mk hk hs hn hc hl hhd
 have hg := goal_ok hT
 have hbt := built_ok hs (hl.length : Int)
 have sn := hT.facts.2.1
 have ln := fun H : List AO => hhd.len H
 have l6a : Q76 (mkH k s n c hk hs hn hc b v) true 4 (.ptr 2 0) = some (.agg [.v (.int .i64 hk), .v (.string hs), .v (.int .i64 hn), hc]) := rfl
 have l6b : Q76 (mkH k s n c hk hs hn hc b v) false 1 (.ptr 2 1) = some (.v (.string hs)) := rfl
 have l6c : Q76 (mkH k s n c hk hs hn hc b v) false 1 (.ptr 2 3) = some hc := rfl
 have l6d : Q76 (mkH k s n c hk hs hn hc b v) true 6 (.ptr 2 0) = some (.agg [.v (.int .i64 hk), .v (.string hs), .v (.int .i64 hn), hc, b, .v (.int .i64 v)]) := rfl
 have e6 : ∀ (vars env : List AV) (h : List AO), evOp (callW F) vars env h (.build [(.int .i64 0), (.string ⟨#[]⟩), (.int .i64 0), (.slice none 0 0), (.slice none 0 0), (.int .i64 0)] []) = some (.agg zero6, h) := fun _ _ _ => rfl
 have st0 : Q113 (mkH k s n c hk hs hn hc b v) 6 (.ptr 1 0) (.agg zero6) = some (mkH k s n c hk hs hn hc b v) := rfl
 obtain ⟨H1, hH1⟩ : ∃ H1 : List AO, H1 = [.box 24 [.v (.int .i64 k), .v (.string s), .v (.int .i64 n), c], .box 46 [.v (.int .i64 hk), .v (.string hs), .v (.int .i64 hn), hc, b, .v (.int .i64 v)], .box 46 [.v (.int .i64 hk), .v (.string hs), .v (.int .i64 hn), hc, b, .v (.int .i64 v)]] := ⟨_, rfl⟩
 have st1 : Q113 (mkH k s n c hk hs hn hc b v) 6 (.ptr 1 0) (.agg [.v (.int .i64 hk), .v (.string hs), .v (.int .i64 hn), hc, b, .v (.int .i64 v)]) = some H1 := by rw [hH1]; rfl
 have ld1 : Q76 H1 true 6 (.ptr 1 0) = some (.agg [.v (.int .i64 hk), .v (.string hs), .v (.int .i64 hn), hc, b, .v (.int .i64 v)]) := by rw [hH1]; rfl
 have ld0 : Q76 (mkH k s n c hk hs hn hc b v) true 6 (.ptr 1 0) = some (.agg zero6) := rfl
 have f0 : ∀ (H : List AO) (x : Int), lvf H (.tup [.agg zero6, .v (.int .i64 x)]) = some (.tup [.agg zero6, .v (.int .i64 x)], []) := fun _ _ => rfl
 have f1 : ∀ (H : List AO) (x : Int), lvf H (.tup [.agg [.v (.int .i64 hk), .v (.string hs), .v (.int .i64 hn), hc, b, .v (.int .i64 v)], .v (.int .i64 x)]) = some (.tup [.agg [.v (.int .i64 hk), .v (.string hs), .v (.int .i64 hn), hc, b, .v (.int .i64 v)], .v (.int .i64 x)], []) := by
  intro H x
  cases hhd <;> cases hb <;> rfl
 unfold headE
 simp only [Tm.s, Tm.l] at hbt ⊢
 generalize goalB (.mk hk hs hn hl) = G at hg ⊢
 generalize builtB hs (hl.length : Int) = B at hbt ⊢
 generalize hGH : mkH k s n c hk hs hn hc b v = H0 at *
 cases G <;> cases B
 ·refine ⟨.agg zero6, ⟨rfl, rfl⟩, ?_, fun h => by simp at h⟩
  simp only [tailC, mkV, c24_13, c24_14, c24_15, l6a, l6b, l6c, l6d, hg, hbt, sn, ln, e6, st0, ld0, f0, Q122, snap_str, snap_int, Bool.not_false, Bool.true_or, cond_true, Q0, Q1, Q2, Q3, Q4, Q5, Q6, Q7, Q8, Q9, Q10, Q11, Q12, Q13, Q14, Q15, Q16, Q17, Q18, Q19, Q20, Q21, Q22, Q23, Q24, Q25, Q26, Q27, Q28, Q29, Q30, Q31, Q32, Q33, Q35, Q36, Q37, Q38, Q39, Q40, Q41, Q42, Q43, Q44, Q45, Q46, Q47, Q48, Q49, Q50, Q51, Q52, Q53, Q54, Q55, Q56, Q57, Q58, Q59, Q60, Q61, Q62, Q63, Q64, Q65, Q66, Q67, Q68, Q69, Q70, Q71, Q72, Q73, Q99, Q100, Q101, Q102, Q103, Q74, Q75, Q77, Q78, Q79, Q80, Q81, Q82, Q83, Q84, clr, List.length_nil, List.length_cons, List.getElem?_cons_zero, List.getElem?_cons_succ, Nat.reduceAdd, Nat.zero_add, Nat.add_zero, Nat.reduceLeDiff, Nat.reduceSub, ↓reduceIte, List.drop_succ_cons, List.drop_zero, List.take_succ_cons, List.take_zero, Bool.false_eq_true, List.nil_append, List.cons_append, Bool.not_true, Bool.not_false, cond_true, cond_false, bne, Q85, Q86, Q87, Q88, Q89, Q90, Q91, Q92, Q93, Q94, Q95, Q96, Q97, Q98, Q110, Q111, Q116, Q117, Q118, Q119, Q120, Q121, Q122, Q123, Option.map_some, Option.map_none]
 ·refine ⟨.agg zero6, ⟨rfl, rfl⟩, ?_, fun h => by simp at h⟩
  simp only [tailC, mkV, c24_13, c24_14, c24_15, l6a, l6b, l6c, l6d, hg, hbt, sn, ln, e6, st0, ld0, f0, Q122, snap_str, snap_int, Bool.not_false, Bool.true_or, cond_true, Q0, Q1, Q2, Q3, Q4, Q5, Q6, Q7, Q8, Q9, Q10, Q11, Q12, Q13, Q14, Q15, Q16, Q17, Q18, Q19, Q20, Q21, Q22, Q23, Q24, Q25, Q26, Q27, Q28, Q29, Q30, Q31, Q32, Q33, Q35, Q36, Q37, Q38, Q39, Q40, Q41, Q42, Q43, Q44, Q45, Q46, Q47, Q48, Q49, Q50, Q51, Q52, Q53, Q54, Q55, Q56, Q57, Q58, Q59, Q60, Q61, Q62, Q63, Q64, Q65, Q66, Q67, Q68, Q69, Q70, Q71, Q72, Q73, Q99, Q100, Q101, Q102, Q103, Q74, Q75, Q77, Q78, Q79, Q80, Q81, Q82, Q83, Q84, clr, List.length_nil, List.length_cons, List.getElem?_cons_zero, List.getElem?_cons_succ, Nat.reduceAdd, Nat.zero_add, Nat.add_zero, Nat.reduceLeDiff, Nat.reduceSub, ↓reduceIte, List.drop_succ_cons, List.drop_zero, List.take_succ_cons, List.take_zero, Bool.false_eq_true, List.nil_append, List.cons_append, Bool.not_true, Bool.not_false, cond_true, cond_false, bne, Q85, Q86, Q87, Q88, Q89, Q90, Q91, Q92, Q93, Q94, Q95, Q96, Q97, Q98, Q110, Q111, Q116, Q117, Q118, Q119, Q120, Q121, Q122, Q123, Option.map_some, Option.map_none]
 ·refine ⟨_, ⟨rfl, rfl⟩, ?_, fun _ => .mk hk hs hn hc hl hhd b bl hb v⟩
  simp only [tailC, mkV, c24_13, c24_14, c24_15, l6a, l6b, l6c, l6d, hg, hbt, sn, ln, e6, st1, ld1, f1, Q122, snap_str, snap_int, Bool.not_true, Bool.or_self, cond_false, Q0, Q1, Q2, Q3, Q4, Q5, Q6, Q7, Q8, Q9, Q10, Q11, Q12, Q13, Q14, Q15, Q16, Q17, Q18, Q19, Q20, Q21, Q22, Q23, Q24, Q25, Q26, Q27, Q28, Q29, Q30, Q31, Q32, Q33, Q35, Q36, Q37, Q38, Q39, Q40, Q41, Q42, Q43, Q44, Q45, Q46, Q47, Q48, Q49, Q50, Q51, Q52, Q53, Q54, Q55, Q56, Q57, Q58, Q59, Q60, Q61, Q62, Q63, Q64, Q65, Q66, Q67, Q68, Q69, Q70, Q71, Q72, Q73, Q99, Q100, Q101, Q102, Q103, Q74, Q75, Q77, Q78, Q79, Q80, Q81, Q82, Q83, Q84, clr, List.length_nil, List.length_cons, List.getElem?_cons_zero, List.getElem?_cons_succ, Nat.reduceAdd, Nat.zero_add, Nat.add_zero, Nat.reduceLeDiff, Nat.reduceSub, ↓reduceIte, List.drop_succ_cons, List.drop_zero, List.take_succ_cons, List.take_zero, Bool.false_eq_true, List.nil_append, List.cons_append, Bool.not_true, Bool.not_false, cond_true, cond_false, bne, Q85, Q86, Q87, Q88, Q89, Q90, Q91, Q92, Q93, Q94, Q95, Q96, Q97, Q98, Q110, Q111, Q116, Q117, Q118, Q119, Q120, Q121, Q122, Q123, Option.map_some, Option.map_none]
 ·refine ⟨.agg zero6, ⟨rfl, rfl⟩, ?_, fun h => by simp at h⟩
  simp only [tailC, mkV, c24_13, c24_14, c24_15, l6a, l6b, l6c, l6d, hg, hbt, sn, ln, e6, st0, ld0, f0, Q122, snap_str, snap_int, Bool.not_true, Bool.or_true, cond_true, Q0, Q1, Q2, Q3, Q4, Q5, Q6, Q7, Q8, Q9, Q10, Q11, Q12, Q13, Q14, Q15, Q16, Q17, Q18, Q19, Q20, Q21, Q22, Q23, Q24, Q25, Q26, Q27, Q28, Q29, Q30, Q31, Q32, Q33, Q35, Q36, Q37, Q38, Q39, Q40, Q41, Q42, Q43, Q44, Q45, Q46, Q47, Q48, Q49, Q50, Q51, Q52, Q53, Q54, Q55, Q56, Q57, Q58, Q59, Q60, Q61, Q62, Q63, Q64, Q65, Q66, Q67, Q68, Q69, Q70, Q71, Q72, Q73, Q99, Q100, Q101, Q102, Q103, Q74, Q75, Q77, Q78, Q79, Q80, Q81, Q82, Q83, Q84, clr, List.length_nil, List.length_cons, List.getElem?_cons_zero, List.getElem?_cons_succ, Nat.reduceAdd, Nat.zero_add, Nat.add_zero, Nat.reduceLeDiff, Nat.reduceSub, ↓reduceIte, List.drop_succ_cons, List.drop_zero, List.take_succ_cons, List.take_zero, Bool.false_eq_true, List.nil_append, List.cons_append, Bool.not_true, Bool.not_false, cond_true, cond_false, bne, Q85, Q86, Q87, Q88, Q89, Q90, Q91, Q92, Q93, Q94, Q95, Q96, Q97, Q98, Q110, Q111, Q116, Q117, Q118, Q119, Q120, Q121, Q122, Q123, Option.map_some, Option.map_none]
theorem make_ok {t : Tm} {a : AV} (ha : IsT a t) (hz : zT t ≤ 450000) : ∃ ca, Six ca ∧ callW F 24 [a] [] = some (.tup [ca, .v (.int .i64 (makeE t))], []) ∧ (makeE t = 0 → IsCl ca (cutC (numT (varT t) t) (varT t).length)) := by
 have hck := rcheck_ok t a ha
 have hf := ha.facts
 have bxa : bx [] 24 (some a.cells) = some (.ptr 0 0, [.box 24 a.cells]) := rfl
 have q6 : (ofVal (.agg #[(.int .i64 0), (.string ⟨#[]⟩), (.int .i64 0), (.slice none 0 0), (.slice none 0 0), (.int .i64 0)])).cl = some zero6 := by simp [ofVal, AV.cl, Value.oneCell', zero6]
 have bxb : bx [.box 24 a.cells] 46 (some zero6) = some (.ptr 1 0, [.box 24 a.cells, .box 46 zero6]) := rfl
 have e1 : Q76 [.box 24 a.cells, .box 46 zero6] true 4 (.ptr 0 0) = some a := by
  cases ha; rfl
 have e6 : ∀ (vars env : List AV) (h : List AO), evOp (callW F) vars env h (.build [(.int .i64 0), (.string ⟨#[]⟩), (.int .i64 0), (.slice none 0 0), (.slice none 0 0), (.int .i64 0)] []) = some (.agg zero6, h) := fun _ _ _ => rfl
 have f0 : ∀ (H : List AO) (x : Int), lvf H (.tup [.agg zero6, .v (.int .i64 x)]) = some (.tup [.agg zero6, .v (.int .i64 x)], []) := fun _ _ => rfl
 rw [makeE]
 by_cases hc : checkT t = 0
 ·rw [hc] at hck
  rw [if_pos hc]
  obtain ⟨q, hq, hv⟩ := vars_ok (t := t) (a := a) (by rw [← zT_size]; exact hz) ha
  rw [vars_eq] at hq
  have hvl : (varT t).length ≤ 450000 := by
   have h1 := foldNew_len (placesT t) []
   have h2 := places_len t
   rw [← zT_size] at h2
   have h3 : (varsT t).length ≤ (placesT t).length := by simpa [varsT] using h1
   rw [vars_eq] at h3
   omega
  obtain ⟨r, hr, hn⟩ := num_ok hq hvl _ t a (Nat.lt_succ_self _) (by rw [← zT_size]; exact hz) ha
  have hz' := num_size (varT t) t
  generalize hgt : numT (varT t) t = t' at hr hz' ⊢
  have hqs := fun H : List AO => hq.snap H
  have hql : ∀ H : List AO, evLen H .slice q = some (varT t).length := fun H => by rw [hq.len H, List.length_map]
  have hrf := hr.facts
  have hi := is_ok hr neck 2
  rw [isB_2] at hi
  have hrs : ∀ X : List AO, Q113 (.box 24 a.cells :: X) 4 (.ptr 0 0) r = some (.box 24 r.cells :: X) := by
   intro X
   have h1 := ha.cl.2
   have := bx_st (h := .box 24 a.cells :: X) (id := 0) (bt := 24) (cs := a.cells) rfl hr.cl.1 (n := 4) (o := 0) hr.cl.2 (by omega)
   rw [this]
   cases ha; cases hr; rfl
  have hrl : ∀ X : List AO, Q76 (.box 24 r.cells :: X) true 4 (.ptr 0 0) = some r := by
   intro X; cases hr; rfl
  generalize hgv : (varT t).length = v at hql ⊢
  have bd : evBuild [a, .ptr 0 0, .ptr 1 0, .v (.int .i64 0), .v (.int .i64 0), q, .v undef, .v undef, .v undef, .v (.bool false), .v undef, .v undef, .v undef] [] zero6 [] = some zero6 := rfl
  cases hr with
  | mk k s n c l hcl =>
  have n0 : ((0 : Int) == 0) = true := rfl
  have bdd : ∀ (vars : List AV) (e0 e1 : AV) (env h : List AO), True := fun _ _ _ _ _ => trivial
  have hrs : ∀ X : List AO, Q113 (.box 24 a.cells :: X) 4 (.ptr 0 0) (.agg [.v (.int .i64 k), .v (.string s), .v (.int .i64 n), c]) = some (.box 24 [.v (.int .i64 k), .v (.string s), .v (.int .i64 n), c] :: X) := hrs
  have hrl : ∀ X : List AO, Q76 (.box 24 [.v (.int .i64 k), .v (.string s), .v (.int .i64 n), c] :: X) true 4 (.ptr 0 0) = some (.agg [.v (.int .i64 k), .v (.string s), .v (.int .i64 n), c]) := hrl
  have bld : ∀ (vars : List AV) (h : List AO) (x : AV), evOp (callW F) vars [.v (.int .i64 v), x, .agg [.v (.int .i64 k), .v (.string s), .v (.int .i64 n), c]] h (.build [(.int .i64 0), (.string ⟨#[]⟩), (.int .i64 0), (.slice none 0 0), (.slice none 0 0), (.int .i64 0)] [(0, 4, (.loc 2)), (5, 1, (.loc 0))]) = some (.agg [.v (.int .i64 k), .v (.string s), .v (.int .i64 n), c, .v (.slice none 0 0), .v (.int .i64 v)], h) := by
   intro vars h x
   cases hcl <;> rfl
  have bxc : bx [.box 24 [.v (.int .i64 k), .v (.string s), .v (.int .i64 n), c], .box 46 zero6] 46 (some zero6) = some (.ptr 2 0, [.box 24 [.v (.int .i64 k), .v (.string s), .v (.int .i64 n), c], .box 46 zero6, .box 46 zero6]) := rfl
  have stc : Q113 [.box 24 [.v (.int .i64 k), .v (.string s), .v (.int .i64 n), c], .box 46 zero6, .box 46 zero6] 6 (.ptr 2 0) (.agg [.v (.int .i64 k), .v (.string s), .v (.int .i64 n), c, .v (.slice none 0 0), .v (.int .i64 v)]) = some (mkH k s n c k s n c (.v (.slice none 0 0)) v) := rfl
  have ldr : Q76 (mkH k s n c k s n c (.v (.slice none 0 0)) v) true 4 (.ptr 0 0) = some (.agg [.v (.int .i64 k), .v (.string s), .v (.int .i64 n), c]) := rfl
  have ldc : Q76 (mkH k s n c k s n c (.v (.slice none 0 0)) v) false 1 (.ptr 0 3) = some c := rfl
  cases h2 : is2 (.mk k s n l) neck with
  | false =>
   rw [h2] at hi
   obtain ⟨ca, g0, g1, g2⟩ := make_tail (k := k) (s := s) (n := n) (c := c) (hk := k) (hs := s) (hn := n) (v := (v : Int)) hcl (.nil) a q (.v (.int .i64 0)) (.v undef) (.v undef) (.v undef) false
   simp only [Bool.false_eq_true, if_false]
   refine ⟨ca, g0, callW_pure (c := c24) rfl rfl 0 ?_, fun h => ?_⟩
   ·rw [← g1]
    rw [show c24.body = (.seq (.region [] [] c24_0) (.seq (.seq (.region [] [] c24_1) (.seq (.region [] [] c24_2) (.cond (.var 9) (.seq (.region [] [] c24_3) .ret) .skip))) (.seq (.region [] [] c24_4) (.seq (.region [] [] c24_5) (.seq (.region [] [] c24_6) (.seq (.seq (.region [] [] c24_7) (.cond (.var 10) (.seq (.region [] [] c24_8) (.seq (.seq (.region [] [] c24_9) (.cond (.var 11) (.seq (.region [] [] c24_10) .ret) .skip)) (.seq (.region [] [] c24_11) (.region [] [] c24_12)))) .skip)) tailC)))))) from rfl, show c24.res = [.cell 2 true 6, .var 3] from rfl]
    generalize tailC = TC
    simp only [neck] at hi
    simp only [mkV, c24, start, List.replicate, c24_0, c24_1, c24_2, c24_4, c24_5, c24_6, c24_7, bxa, q6, bxb, e1, hf, hck, n0, hv, hqs, hn, hrs, hrl, hql, bld, bxc, stc, ldr, hrf, hi, snap_str, snap_int, Q0, Q1, Q2, Q3, Q4, Q5, Q6, Q7, Q8, Q9, Q10, Q11, Q12, Q13, Q14, Q15, Q16, Q17, Q18, Q19, Q20, Q21, Q22, Q23, Q24, Q25, Q26, Q27, Q28, Q29, Q30, Q31, Q32, Q33, Q35, Q36, Q37, Q38, Q39, Q40, Q41, Q42, Q43, Q44, Q45, Q46, Q47, Q48, Q49, Q50, Q51, Q52, Q53, Q54, Q55, Q56, Q57, Q58, Q59, Q60, Q61, Q62, Q63, Q64, Q65, Q66, Q67, Q68, Q69, Q70, Q71, Q72, Q73, Q99, Q100, Q101, Q102, Q103, Q74, Q75, Q77, Q78, Q79, Q80, Q81, Q82, Q83, Q84, clr, List.length_nil, List.length_cons, List.getElem?_cons_zero, List.getElem?_cons_succ, Nat.reduceAdd, Nat.zero_add, Nat.add_zero, Nat.reduceLeDiff, Nat.reduceSub, ↓reduceIte, List.drop_succ_cons, List.drop_zero, List.take_succ_cons, List.take_zero, Bool.false_eq_true, List.nil_append, List.cons_append, Bool.not_true, Bool.not_false, cond_true, cond_false, bne, Q85, Q86, Q87, Q88, Q89, Q90, Q91, Q92, Q93, Q94, Q95, Q96, Q97, Q98, Q110, Q111, Q116, Q117, Q118, Q119, Q120, Q121, Q122, Q123, Option.map_some, Option.map_none]
   ·have := g2 h
    rw [cutC, h2]
    exact this
  | true =>
   rw [h2] at hi
   obtain ⟨hk4, _, hl2⟩ := is2_iff.1 h2
   simp only [Tm.k, Tm.l] at hk4 hl2
   obtain ⟨es, hs', hes, hm⟩ := hcl.sl
   have hll := hes.length
   match l, es, hl2, hes, hll with
   | [x, y], [ex, ey], _, hes, hll =>
   have hx := hes.at (i := 0) (by simp) (by simp)
   have hy := hes.at (i := 1) (by simp) (by simp)
   simp only [List.getElem_cons_zero, List.getElem_cons_succ] at hx hy
   simp only [zT, zL] at hz'
   obtain ⟨cg, gg1, gg2⟩ := goals_ok hy (by omega)
   have fx := hx.facts
   have fy := hy.facts
   have i0 := fun H : List AO => hs'.ia (i := 0) rfl H
   have i1 := fun H : List AO => hs'.ia (i := 1) rfl H
   have m0 : natV (.v (.int .i64 0)) = some 0 := rfl
   have m1 : natV (.v (.int .i64 1)) = some 1 := rfl
   simp only [if_true, Tm.l, List.getD_cons_zero, List.getD_cons_succ]
   by_cases hge : goalsE y = 0
   ·rw [if_pos hge]
    rw [hge] at gg1
    have hcg := gg2 hge
    cases hx with
    | mk kx sx nx cx lx hcx =>
    obtain ⟨ca, g0, g1, g2⟩ := make_tail (k := k) (s := s) (n := n) (c := c) (hk := kx) (hs := sx) (hn := nx) (v := (v : Int)) hcx hcg a q (.v (.int .i64 0)) cg (.v (.int .i64 0)) (.v (.bool false)) true
    refine ⟨ca, g0, callW_pure (c := c24) rfl rfl 0 ?_, fun h => ?_⟩
    ·rw [← g1]
     have sth : Q113 (mkH k s n c k s n c (.v (.slice none 0 0)) v) 4 (.ptr 2 0) (.agg [.v (.int .i64 kx), .v (.string sx), .v (.int .i64 nx), cx]) = some (mkH k s n c kx sx nx cx (.v (.slice none 0 0)) v) := by
      cases hcx <;> rfl
     have stb : Q113 (mkH k s n c kx sx nx cx (.v (.slice none 0 0)) v) 1 (.ptr 2 4) cg = some (mkH k s n c kx sx nx cx cg v) := by
      have gen : ∀ B : List Tm, IsL cg B → Q113 (mkH k s n c kx sx nx cx (.v (.slice none 0 0)) v) 1 (.ptr 2 4) cg = some (mkH k s n c kx sx nx cx cg v) := by
       intro B hB; cases hB <;> rfl
      exact gen _ hcg
     have lx : ∀ H : List AO, Q76 H true 4 (.ip [.v (.int .i64 kx), .v (.string sx), .v (.int .i64 nx), cx]) = some (.agg [.v (.int .i64 kx), .v (.string sx), .v (.int .i64 nx), cx]) := fun _ => rfl
     rw [show c24.body = (.seq (.region [] [] c24_0) (.seq (.seq (.region [] [] c24_1) (.seq (.region [] [] c24_2) (.cond (.var 9) (.seq (.region [] [] c24_3) .ret) .skip))) (.seq (.region [] [] c24_4) (.seq (.region [] [] c24_5) (.seq (.region [] [] c24_6) (.seq (.seq (.region [] [] c24_7) (.cond (.var 10) (.seq (.region [] [] c24_8) (.seq (.seq (.region [] [] c24_9) (.cond (.var 11) (.seq (.region [] [] c24_10) .ret) .skip)) (.seq (.region [] [] c24_11) (.region [] [] c24_12)))) .skip)) tailC)))))) from rfl, show c24.res = [.cell 2 true 6, .var 3] from rfl]
     generalize tailC = TC
     simp only [neck] at hi
     have ldi : Q76 (mkH k s n c kx sx nx cx (.v (.slice none 0 0)) v) false 1 (.ptr 0 3) = some c := rfl
     generalize hH0 : mkH k s n c k s n c (.v (.slice none 0 0)) v = H0 at *
     generalize hH1 : mkH k s n c kx sx nx cx (.v (.slice none 0 0)) v = H1 at *
     simp only [mkV, c24, start, List.replicate, c24_0, c24_1, c24_2, c24_4, c24_5, c24_6, c24_7, c24_8, c24_9, c24_11, c24_12, bxa, q6, bxb, e1, hf, hck, n0, hv, hqs, hn, hrs, hrl, hql, bld, bxc, stc, ldr, ldc, hrf, hi, i0, i1, m0, m1, lx, fy, gg1, Q123, sth, stb, snap_str, snap_int, Q0, Q1, Q2, Q3, Q4, Q5, Q6, Q7, Q8, Q9, Q10, Q11, Q12, Q13, Q14, Q15, Q16, Q17, Q18, Q19, Q20, Q21, Q22, Q23, Q24, Q25, Q26, Q27, Q28, Q29, Q30, Q31, Q32, Q33, Q35, Q36, Q37, Q38, Q39, Q40, Q41, Q42, Q43, Q44, Q45, Q46, Q47, Q48, Q49, Q50, Q51, Q52, Q53, Q54, Q55, Q56, Q57, Q58, Q59, Q60, Q61, Q62, Q63, Q64, Q65, Q66, Q67, Q68, Q69, Q70, Q71, Q72, Q73, Q99, Q100, Q101, Q102, Q103, Q74, Q75, Q77, Q78, Q79, Q80, Q81, Q82, Q83, Q84, clr, List.length_nil, List.length_cons, List.getElem?_cons_zero, List.getElem?_cons_succ, Nat.reduceAdd, Nat.zero_add, Nat.add_zero, Nat.reduceLeDiff, Nat.reduceSub, ↓reduceIte, List.drop_succ_cons, List.drop_zero, List.take_succ_cons, List.take_zero, Bool.false_eq_true, List.nil_append, List.cons_append, Bool.not_true, Bool.not_false, cond_true, cond_false, bne, Q85, Q86, Q87, Q88, Q89, Q90, Q91, Q92, Q93, Q94, Q95, Q96, Q97, Q98, Q110, Q111, Q116, Q117, Q118, Q119, Q120, Q121, Q122, Q123, Option.map_some, Option.map_none]
    ·have := g2 h
     rw [cutC, h2]
     exact this
   ·rw [if_neg hge]
    have hgb : (goalsE y == 0) = false := by simpa using hge
    refine ⟨.agg zero6, ⟨rfl, rfl⟩, callW_pure (c := c24) rfl rfl 0 ?_, fun h => absurd h hge⟩
    have st0 : Q113 (mkH k s n c k s n c (.v (.slice none 0 0)) v) 6 (.ptr 1 0) (.agg zero6) = some (mkH k s n c k s n c (.v (.slice none 0 0)) v) := rfl
    have ld0 : Q76 (mkH k s n c k s n c (.v (.slice none 0 0)) v) true 6 (.ptr 1 0) = some (.agg zero6) := rfl
    rw [show c24.body = (.seq (.region [] [] c24_0) (.seq (.seq (.region [] [] c24_1) (.seq (.region [] [] c24_2) (.cond (.var 9) (.seq (.region [] [] c24_3) .ret) .skip))) (.seq (.region [] [] c24_4) (.seq (.region [] [] c24_5) (.seq (.region [] [] c24_6) (.seq (.seq (.region [] [] c24_7) (.cond (.var 10) (.seq (.region [] [] c24_8) (.seq (.seq (.region [] [] c24_9) (.cond (.var 11) (.seq (.region [] [] c24_10) .ret) .skip)) (.seq (.region [] [] c24_11) (.region [] [] c24_12)))) .skip)) tailC)))))) from rfl, show c24.res = [.cell 2 true 6, .var 3] from rfl]
    generalize tailC = TC
    simp only [neck] at hi
    generalize hH0 : mkH k s n c k s n c (.v (.slice none 0 0)) v = H0 at *
    simp only [mkV, c24, start, List.replicate, c24_0, c24_1, c24_2, c24_4, c24_5, c24_6, c24_7, c24_8, c24_9, c24_10, bxa, q6, bxb, e1, hf, hck, n0, hgb, hv, hqs, hn, hrs, hrl, hql, bld, bxc, stc, ldr, ldc, hrf, hi, i0, i1, m0, m1, fx, fy, gg1, e6, st0, ld0, f0, snap_str, snap_int, Q0, Q1, Q2, Q3, Q4, Q5, Q6, Q7, Q8, Q9, Q10, Q11, Q12, Q13, Q14, Q15, Q16, Q17, Q18, Q19, Q20, Q21, Q22, Q23, Q24, Q25, Q26, Q27, Q28, Q29, Q30, Q31, Q32, Q33, Q35, Q36, Q37, Q38, Q39, Q40, Q41, Q42, Q43, Q44, Q45, Q46, Q47, Q48, Q49, Q50, Q51, Q52, Q53, Q54, Q55, Q56, Q57, Q58, Q59, Q60, Q61, Q62, Q63, Q64, Q65, Q66, Q67, Q68, Q69, Q70, Q71, Q72, Q73, Q99, Q100, Q101, Q102, Q103, Q74, Q75, Q77, Q78, Q79, Q80, Q81, Q82, Q83, Q84, clr, List.length_nil, List.length_cons, List.getElem?_cons_zero, List.getElem?_cons_succ, Nat.reduceAdd, Nat.zero_add, Nat.add_zero, Nat.reduceLeDiff, Nat.reduceSub, ↓reduceIte, List.drop_succ_cons, List.drop_zero, List.take_succ_cons, List.take_zero, Bool.false_eq_true, List.nil_append, List.cons_append, Bool.not_true, Bool.not_false, cond_true, cond_false, bne, Q85, Q86, Q87, Q88, Q89, Q90, Q91, Q92, Q93, Q94, Q95, Q96, Q97, Q98, Q110, Q111, Q116, Q117, Q118, Q119, Q120, Q121, Q122, Q123, Option.map_some, Option.map_none]
 ·rw [if_neg hc]
  have hcb : (checkT t == 0) = false := by simpa using hc
  refine ⟨.agg zero6, ⟨rfl, rfl⟩, callW_pure (c := c24) rfl rfl 0 ?_, fun h => absurd h hc⟩
  have st0 : Q113 [.box 24 a.cells, .box 46 zero6] 6 (.ptr 1 0) (.agg zero6) = some [.box 24 a.cells, .box 46 zero6] := rfl
  have ld0 : Q76 [.box 24 a.cells, .box 46 zero6] true 6 (.ptr 1 0) = some (.agg zero6) := rfl
  generalize checkT t = E at *
  simp only [c24, start, List.replicate, c24_0, c24_1, c24_2, c24_3, bxa, q6, bxb, e1, hf, hck, hcb, e6, st0, ld0, f0, snap_str, snap_int, Q0, Q1, Q2, Q3, Q4, Q5, Q6, Q7, Q8, Q9, Q10, Q11, Q12, Q13, Q14, Q15, Q16, Q17, Q18, Q19, Q20, Q21, Q22, Q23, Q24, Q25, Q26, Q27, Q28, Q29, Q30, Q31, Q32, Q33, Q35, Q36, Q37, Q38, Q39, Q40, Q41, Q42, Q43, Q44, Q45, Q46, Q47, Q48, Q49, Q50, Q51, Q52, Q53, Q54, Q55, Q56, Q57, Q58, Q59, Q60, Q61, Q62, Q63, Q64, Q65, Q66, Q67, Q68, Q69, Q70, Q71, Q72, Q73, Q99, Q100, Q101, Q102, Q103, Q74, Q75, Q77, Q78, Q79, Q80, Q81, Q82, Q83, Q84, clr, List.length_nil, List.length_cons, List.getElem?_cons_zero, List.getElem?_cons_succ, Nat.reduceAdd, Nat.zero_add, Nat.add_zero, Nat.reduceLeDiff, Nat.reduceSub, ↓reduceIte, List.drop_succ_cons, List.drop_zero, List.take_succ_cons, List.take_zero, Bool.false_eq_true, List.nil_append, List.cons_append, Bool.not_true, Bool.not_false, cond_true, cond_false, bne, Q85, Q86, Q87, Q88, Q89, Q90, Q91, Q92, Q93, Q94, Q95, Q96, Q97, Q98, Q110, Q111, Q116, Q117, Q118, Q119, Q120, Q121, Q122, Q123, Option.map_some, Option.map_none]
end Go.AE.YtinhjhkmpknbbaaDoor
end

section
namespace Go.AE.YtinhjhkmpknbbaaDoor
open Go Go.AE Go.Proofs.YtinhjhkmpknbbaaDoor

theorem wf_k {t : Tm} (h : wfT t) (c : isC t = false) : t.k = 1 ∨ t.k = 2 ∨ t.k = 3 := by
 cases t with | mk k s n l =>
 rw [wfT] at h
 have c : ¬ k = 4 := of_decide_eq_false c
 simp only [Tm.k]
 rcases h with h | h | h | h
 ·exact .inl h.1
 ·exact .inr (.inl h.1)
 ·exact .inr (.inr h.1)
 ·exact absurd h.1 c
mutual
theorem innT_le : ∀ t : Tm, innT true t ≤ zT t
 | .mk k s n l => by
  have := innL_le l
  rw [innT, zT]; split <;> omega
theorem innL_le : ∀ l : List Tm, innL l ≤ zL l
 | [] => by simp [innL, zL]
 | t :: l => by
  have := innT_le t
  have := innL_le l
  rw [innL, zL]; omega
end
theorem kT_le (t : Tm) : kT t ≤ 2 * zT t := by
 have : innL t.l ≤ zT t := by
  cases t with | mk k s n l =>
  have := innL_le l
  rw [zT]; simp only [Tm.l]; omega
 rw [kT]; omega
theorem setA_next : ∀ (l : List Tm) (ks : List Nat) (g : Sg), (setA g l ks).2.next = g.next
 | [], ks, g => by cases ks <;> rfl
 | t :: l, [], g => rfl
 | t :: l, k :: ks, g => by
  rw [setA]
  split
  ·exact setA_next l ks g
  ·simp only [setA_next l ks]; exact pSg_next g t
mutual
theorem putC_next : ∀ (t : Tm) (r : Nat) (g : Sg), (putC r g t).2.next = g.next + cL t.l
 | .mk k s n l, r, g => by
  rw [putC]
  simp only [setA_next, putA_next l g, Tm.l]
theorem putA_next : ∀ (l : List Tm) (g : Sg), (putA g l).2.2.next = g.next + cL l
 | [], g => by rw [putA, cL]; rfl
 | .mk k s n m :: l, g => by
  rw [putA, cL]
  by_cases hk : k = 4
  ·simp only [hk, if_true]
   rw [putA_next l, putC_next (.mk 4 s n m), cT, if_pos rfl]
   simp only [Tm.l]; omega
  ·simp only [hk, if_false]
   rw [putA_next l g, cT, if_neg hk]; omega
end

def K60 : List Bool := [true, true, false, true, true, false, false, false, false, false, true, true, true, false, false, false, false, false, false, false]
def V60 (b B n : Nat) (r : Int) (c : AV) (i : Int) (x5 x6 x13 x14 : AV) : List AV := [.ptr b 0, .v (.int .i64 r), .junk, .ptr B 0, .own 1 (B + 1) 0 0 n, x5, x6, .junk, .junk, .junk, c, .v (.int .i64 n), .v (.int .i64 i), x13, x14, .junk, .junk, .junk, .junk, .junk]
def regs (ks : List Nat) (n : Nat) : List AV := (ks.map fun k : Nat => iv k) ++ List.replicate (n - ks.length) (iv 0)
theorem regs_len {ks : List Nat} {n : Nat} (h : ks.length ≤ n) : (regs ks n).length = n := by simp [regs]; omega
theorem regs_next {ks : List Nat} {n : Nat} (h : ks.length < n) : (regs ks n)[ks.length]? = some (iv 0) := by
 rw [regs, List.getElem?_append_right (by simp)]
 simp [List.getElem?_replicate]; omega
theorem regs_zero {ks : List Nat} {n : Nat} (h : ks.length < n) : regs (ks ++ [0]) n = regs ks n := by
 obtain ⟨m, hm⟩ : ∃ m, n - ks.length = m + 1 := ⟨n - ks.length - 1, by omega⟩
 have hm' : n - (ks.length + 1) = m := by omega
 simp only [regs, List.map_append, List.map_cons, List.map_nil, List.length_append, List.length_cons, List.length_nil, hm, hm', List.append_assoc, Nat.zero_add]
 rfl
theorem regs_set {ks : List Nat} {n : Nat} (h : ks.length < n) (k : Nat) : (regs ks n).set ks.length (iv k) = regs (ks ++ [k]) n := by
 obtain ⟨m, hm⟩ : ∃ m, n - ks.length = m + 1 := ⟨n - ks.length - 1, by omega⟩
 have hm' : n - (ks.length + 1) = m := by omega
 simp only [regs, List.map_append, List.map_cons, List.map_nil, List.length_append, List.length_cons, List.length_nil, hm, hm', Nat.zero_add]
 rw [List.set_append_right _ _ (by simp)]
 simp [List.replicate_succ]
theorem el_iv (n : Int) : El false 1 (iv n) := El.int n
def loc (tc : List AV) (ks : List Nat) (n : Nat) (tl : List AO) : List AO := .box 24 tc :: .row 3 1 0 (regs ks n) 0 :: tl
theorem loc_bel {tc : List AV} {ks : List Nat} {n : Nat} {tl : List AO} (ht : (AO.box 24 tc).below 0 = true) (hl : tl.all (AO.below 0) = true) (N : Nat) : (loc tc ks n tl).all (AO.below N) = true := by
 refine all_below_mono (Nat.zero_le N) ?_
 simp only [loc, List.all_cons, ht, hl]
 rfl
theorem loc_app {tc : List AV} {ks : List Nat} {n : Nat} {tl : List AO} (x : AO) : loc tc ks n tl ++ [x] = loc tc ks n (tl ++ [x]) := rfl
section
variable {H : List AO} {tc : List AV} {ks : List Nat} {n B : Nat} {tl : List AO}
theorem loc_row (hB : H.length = B) : (H ++ loc tc ks n tl)[B + 1]? = some (.row 3 1 0 (regs ks n) 0) := by
 subst hB
 rw [List.getElem?_append_right (by omega), Nat.add_sub_cancel_left]; rfl
theorem loc_ia (hB : H.length = B) (hk : ks.length ≤ n) {i : Nat} (hi : i < n) : iaV (H ++ loc tc ks n tl) 1 (.own 1 (B + 1) 0 0 n) (some i) = some (.ep 1 (B + 1) 0 i 0) := row_ia (loc_row hB) (by rw [regs_len hk]; exact Nat.le_refl _) hi
theorem loc_ld (hB : H.length = B) (hk : ks.length ≤ n) {i : Nat} {x : Int} (hx : (regs ks n)[i]? = some (iv x)) : Q76 (H ++ loc tc ks n tl) false 1 (.ep 1 (B + 1) 0 i 0) = some (iv x) := row_ld (loc_row hB) hx (el_iv x)
theorem loc_st (hB : H.length = B) (hk : ks.length < n) (k : Nat) : Q113 (H ++ loc tc ks n tl) 1 (.ep 1 (B + 1) 0 ks.length 0) (iv k) = some (H ++ loc tc (ks ++ [k]) n tl) := by
 rw [row_st (loc_row hB) (regs_next hk) (el_iv 0) (el_iv k), ← hB, regs_set hk]
 rw [List.set_append_right _ _ (by omega), Nat.add_sub_cancel_left]
 rfl
end
theorem box_k {e : AV} {t : Tm} (ht : IsT e t) (G : List AO) : Q76 (G ++ [.box 24 e.cells]) false 1 (.ptr G.length 0) = some (.v (.int .i64 t.k)) := by
 cases ht; rw [ld_new]; rfl
theorem put1_loop {K b rl m : Nat} {Q : AV} {tc : List AV} {c : AV} {es : List AV} {l : List Tm} {r : Int} {h0 : List AO} {B : Nat} (hB : h0.length = B) (htc : (AO.box 24 tc).below 0 = true) (hs : Sl 4 c es) (hes : All2 es l) (hwf : wfL l) (hm : es.length ≤ 900000)
  (hcall : ∀ t ∈ l, isC t = true → ∀ (e : AV) (H : List AO) (code : List Op5) (g : Sg) (k : Nat), IsT e t → Cp H b rl m code g Q → code.length + 2 * zT t ≤ 900000 → g.next + zT t ≤ 3000001 → k ≤ 3000000 →
   ∃ H', callW F 60 [.ptr b 0, .v (.int .i64 k), e] H = some (.tup [], H') ∧ Cp H' b rl m (code ++ (putC k g t).1) (putC k g t).2 Q ∧ Rs [b, rl, m] H H') :
  ∀ (l' : List Tm) (i : Nat) (hi : List AO) (code : List Op5) (g : Sg) (ks : List Nat) (tl : List AO) (vars : List AV), i + l'.length = es.length → l' = l.drop i → ks.length = i → Cp hi b rl m code g Q → hi.length = B →
   code.length + 2 * zL l' ≤ 900000 → g.next + zL l' ≤ 3000000 → tl.all (AO.below 0) = true → clr K60 vars = V60 b B es.length r c i .junk .junk .junk .junk →
   ∃ hi' tl' x5 x6 x14, loopN (exec (callW F) K c60_10) K60 (l'.length + 1) vars (hi ++ loc tc ks es.length tl) = some (.exit 0, V60 b B es.length r c es.length x5 x6 (.v (.bool false)) x14, hi' ++ loc tc (ks ++ (putA g l').2.1) es.length tl') ∧
    Cp hi' b rl m (code ++ (putA g l').1) (putA g l').2.2 Q ∧ Rs [b, rl, m] hi hi' ∧ tl'.all (AO.below 0) = true := by
 have hll := hes.length
 intro l'
 induction l' with
 | nil =>
  intro i hi code g ks tl vars hil _ hks cp hlB _ _ htl hv
  have hil : i = es.length := by simpa using hil
  subst hil
  have hlt := lt_f (n := es.length)
  refine ⟨hi, tl, .junk, .junk, .junk, ?_, by rw [putA]; simpa using cp, .refl hi, htl⟩
  rw [putA, List.append_nil, List.length_nil, Nat.zero_add]
  refine loop_exit ?_
  rw [hv]
  simp only [V60, c60_10, c60_4, hlt, Q0, Q1, Q2, Q3, Q4, Q5, Q6, Q7, Q8, Q9, Q10, Q11, Q12, Q13, Q14, Q15, Q16, Q17, Q18, Q19, Q20, Q21, Q22, Q23, Q24, Q25, Q26, Q27, Q28, Q29, Q30, Q31, Q32, Q33, Q35, Q36, Q37, Q38, Q39, Q40, Q41, Q42, Q43, Q44, Q45, Q46, Q47, Q48, Q49, Q50, Q51, Q52, Q53, Q54, Q55, Q56, Q57, Q58, Q59, Q60, Q61, Q62, Q63, Q64, Q65, Q66, Q67, Q68, Q69, Q70, Q71, Q72, Q73, Q99, Q100, Q101, Q102, Q103, Q74, Q75, Q77, Q78, Q79, Q80, Q81, Q82, Q83, Q84, clr, List.length_nil, List.length_cons, List.getElem?_cons_zero, List.getElem?_cons_succ, Nat.reduceAdd, Nat.zero_add, Nat.add_zero, Nat.reduceLeDiff, Nat.reduceSub, ↓reduceIte, List.drop_succ_cons, List.drop_zero, List.take_succ_cons, List.take_zero, Bool.false_eq_true, List.nil_append, List.cons_append, Bool.not_true, Bool.not_false, cond_true, cond_false, bne, Q85, Q86, Q87, Q88, Q89, Q90, Q91, Q92, Q93, Q94, Q95, Q96, Q97, Q98, Q110, Q111, Q116, Q117, Q118, Q119, Q120, Q121, Q122, Q123, Option.map_some, Option.map_none, Q34]
 | cons t l' ih =>
  intro i hi code g ks tl vars hil hd hks cp hlB hcl hnx htl hv
  have hil' : i < es.length := by simp at hil; omega
  have hll' : i < l.length := by omega
  have hti : l[i] = t := by
   have h1 := List.drop_eq_getElem_cons hll'
   rw [← hd] at h1
   exact (List.cons.inj h1).1.symm
  have hd' : l' = l.drop (i + 1) := by
   have h1 := List.drop_eq_getElem_cons hll'
   rw [← hd] at h1
   exact (List.cons.inj h1).2
  have hT := hes.at hil' hll'
  rw [hti] at hT
  have htm : t ∈ l := by rw [← hti]; exact List.getElem_mem hll'
  have he : es[i]? = some es[i] := List.getElem?_eq_getElem hil'
  generalize es[i] = e at hT he
  have hf := hT.facts
  have q1 := fun h : List AO => hs.ia he h
  have hlt := lt_t hil'
  have hw := wrap_succ hil' (small_maxM hm)
  have q9 : ∀ h : List AO, bx h 24 (ofVal (.agg #[(.int .i64 0), (.string ⟨#[]⟩), (.int .i64 0), (.slice none 0 0)])).cl = some (.ptr h.length 0, h ++ [.box 24 [.v (.int .i64 0), .v (.string ⟨#[]⟩), .v (.int .i64 0), .v (.slice none 0 0)]]) := fun h => by rw [q9z]; rfl
  have htl2 : (tl ++ [AO.box 24 e.cells]).all (AO.below 0) = true := by
   have : AO.below 0 (.box 24 e.cells) = true := hT.bel
   simp only [List.all_append, List.all_cons, List.all_nil, htl, this, Bool.and_true]
  have bk := box_k hT
  simp only [zL] at hcl hnx
  rw [show (t :: l').length + 1 = (l'.length + 1) + 1 from rfl]
  cases hct : isC t with
  | false =>
   have hk4 : (t.k == 4) = false := by
    have : ¬ t.k = 4 := of_decide_eq_false hct
    simpa using this
   have st : exec (callW F) K c60_10 (V60 b B es.length r c i .junk .junk .junk .junk) (hi ++ loc tc ks es.length tl) = some (.normal, V60 b B es.length r c ((i + 1 : Nat) : Int) (.v (.int .i64 i)) (.ptr (hi ++ loc tc ks es.length tl).length 0) (.v (.bool true)) (.v (.bool false)), hi ++ loc tc ks es.length (tl ++ [.box 24 e.cells])) := by
    rw [← loc_app, ← List.append_assoc]
    generalize hi ++ loc tc ks es.length tl = G
    simp only [V60, c60_10, c60_4, c60_5, c60_6, c60_9, hlt, hw, q1, hf, bk, hk4, q9, Q0, Q1, Q2, Q3, Q4, Q5, Q6, Q7, Q8, Q9, Q10, Q11, Q12, Q13, Q14, Q15, Q16, Q17, Q18, Q19, Q20, Q21, Q22, Q23, Q24, Q25, Q26, Q27, Q28, Q29, Q30, Q31, Q32, Q33, Q35, Q36, Q37, Q38, Q39, Q40, Q41, Q42, Q43, Q44, Q45, Q46, Q47, Q48, Q49, Q50, Q51, Q52, Q53, Q54, Q55, Q56, Q57, Q58, Q59, Q60, Q61, Q62, Q63, Q64, Q65, Q66, Q67, Q68, Q69, Q70, Q71, Q72, Q73, Q99, Q100, Q101, Q102, Q103, Q74, Q75, Q77, Q78, Q79, Q80, Q81, Q82, Q83, Q84, clr, List.length_nil, List.length_cons, List.getElem?_cons_zero, List.getElem?_cons_succ, Nat.reduceAdd, Nat.zero_add, Nat.add_zero, Nat.reduceLeDiff, Nat.reduceSub, ↓reduceIte, List.drop_succ_cons, List.drop_zero, List.take_succ_cons, List.take_zero, Bool.false_eq_true, List.nil_append, List.cons_append, Bool.not_true, Bool.not_false, cond_true, cond_false, bne, Q85, Q86, Q87, Q88, Q89, Q90, Q91, Q92, Q93, Q94, Q95, Q96, Q97, Q98, Q110, Q111, Q116, Q117, Q118, Q119, Q120, Q121, Q122, Q123, Option.map_some, Option.map_none]
   rw [loop_normal (by rw [hv]; exact st)]
   have hp : putA g (t :: l') = ((putA g l').1, 0 :: (putA g l').2.1, (putA g l').2.2) := by
    cases t with | mk k s n m' =>
    have : ¬ k = 4 := of_decide_eq_false hct
    rw [putA, if_neg this]
   obtain ⟨hi', tl', x5, x6, x14, g1, g2, g3, g4⟩ := ih (i + 1) hi code g (ks ++ [0]) (tl ++ [.box 24 e.cells]) (V60 b B es.length r c ((i + 1 : Nat) : Int) (.v (.int .i64 i)) (.ptr (hi ++ loc tc ks es.length tl).length 0) (.v (.bool true)) (.v (.bool false))) (by simp at hil; omega) hd' (by simp [hks]) cp hlB (by omega) (by omega) htl2 rfl
   have hreg : loc tc (ks ++ [0]) es.length (tl ++ [.box 24 e.cells]) = loc tc ks es.length (tl ++ [.box 24 e.cells]) := by
    rw [loc, loc, regs_zero (by omega)]
   rw [hreg] at g1
   refine ⟨hi', tl', x5, x6, x14, ?_, by rw [hp]; exact g2, g3, g4⟩
   rw [g1, hp, List.append_assoc]; rfl
  | true =>
   have hk4 : (t.k == 4) = true := by
    have : t.k = 4 := of_decide_eq_true hct
    simpa using this
   have hz1 : 1 ≤ zT t := by cases t; rw [zT]; omega
   -- a register
   obtain ⟨h1, t1, cp1, rs1⟩ := cp.tempA (by omega) (loc tc ks es.length (tl ++ [.box 24 e.cells])) (loc_bel htc htl2 _)
   have hB1 : h1.length = B := rs1.1.trans hlB
   have i1 := loc_ia (H := h1) (tc := tc) (ks := ks) (n := es.length) (tl := tl ++ [.box 24 e.cells]) hB1 (by omega) (i := i) hil'
   have s1 := loc_st (H := h1) (tc := tc) (ks := ks) (n := es.length) (tl := tl ++ [.box 24 e.cells]) hB1 (by omega) g.next
   rw [hks] at s1
   have i2 := loc_ia (H := h1) (tc := tc) (ks := ks ++ [g.next]) (n := es.length) (tl := tl ++ [.box 24 e.cells]) hB1 (by simp; omega) (i := i) hil'
   have l2 := loc_ld (H := h1) (tc := tc) (ks := ks ++ [g.next]) (n := es.length) (tl := tl ++ [.box 24 e.cells]) hB1 (by simp; omega) (i := i) (x := g.next) (by
    rw [regs, List.getElem?_append_left (by simp; omega), ← hks]; simp)
   -- the compound
   have hbl2 := loc_bel (ks := ks ++ [g.next]) (n := es.length) htc htl2 (h1 ++ loc tc (ks ++ [g.next]) es.length (tl ++ [.box 24 e.cells])).length
   have cpa := cp1.app hbl2
   have b1 : code.length + 2 * zT t ≤ 900000 := by omega
   have b2 : ({ g with next := g.next + 1 } : Sg).next + zT t ≤ 3000001 := by show g.next + 1 + zT t ≤ 3000001; omega
   have b3 : g.next ≤ 3000000 := by omega
   obtain ⟨h2, g1, cp2, rs2⟩ := hcall t htm hct e _ code { g with next := g.next + 1 } g.next hT cpa b1 b2 b3
   obtain ⟨h3, e3, cp3, rs3⟩ := cp1.part cp2 rs2
   have ldt : Q76 (h1 ++ loc tc (ks ++ [g.next]) es.length (tl ++ [.box 24 e.cells])) true 4 (.ptr (hi ++ loc tc ks es.length tl).length 0) = some e := by
    have hlen : (hi ++ loc tc ks es.length tl).length = (h1 ++ loc tc (ks ++ [g.next]) es.length tl).length := by
     simp only [List.length_append, loc, List.length_cons, rs1.1]
    rw [hlen, ← loc_app, ← List.append_assoc]
    exact hf.2.2.2.1 _ 24
   rw [e3] at g1
   have st : exec (callW F) K c60_10 (V60 b B es.length r c i .junk .junk .junk .junk) (hi ++ loc tc ks es.length tl) = some (.normal, V60 b B es.length r c ((i + 1 : Nat) : Int) (.v (.int .i64 i)) (.ptr (hi ++ loc tc ks es.length tl).length 0) (.v (.bool true)) (.v (.bool true)), h3 ++ loc tc (ks ++ [g.next]) es.length (tl ++ [.box 24 e.cells])) := by
    have t1 : callW F 87 [.ptr b 0] ((hi ++ loc tc ks es.length tl) ++ [.box 24 e.cells]) = some (.v (.int .i64 g.next), h1 ++ loc tc ks es.length (tl ++ [.box 24 e.cells])) := by
     rw [List.append_assoc, loc_app]; exact t1
    simp only [iv] at s1 l2
    generalize hG0 : hi ++ loc tc ks es.length tl = G0 at *
    generalize hG1 : h1 ++ loc tc ks es.length (tl ++ [.box 24 e.cells]) = G1 at *
    generalize hG2 : h1 ++ loc tc (ks ++ [g.next]) es.length (tl ++ [.box 24 e.cells]) = G2 at *
    generalize hG3 : h3 ++ loc tc (ks ++ [g.next]) es.length (tl ++ [.box 24 e.cells]) = G3 at *
    simp only [V60, c60_10, c60_4, c60_5, c60_6, c60_7, c60_8, c60_9, hlt, hw, q1, hf, bk, hk4, q9, t1, i1, s1, i2, l2, ldt, g1, e_callh, List.map_cons, List.map_nil, Q0, Q1, Q2, Q3, Q4, Q5, Q6, Q7, Q8, Q9, Q10, Q11, Q12, Q13, Q14, Q15, Q16, Q17, Q18, Q19, Q20, Q21, Q22, Q23, Q24, Q25, Q26, Q27, Q28, Q29, Q30, Q31, Q32, Q33, Q35, Q36, Q37, Q38, Q39, Q40, Q41, Q42, Q43, Q44, Q45, Q46, Q47, Q48, Q49, Q50, Q51, Q52, Q53, Q54, Q55, Q56, Q57, Q58, Q59, Q60, Q61, Q62, Q63, Q64, Q65, Q66, Q67, Q68, Q69, Q70, Q71, Q72, Q73, Q99, Q100, Q101, Q102, Q103, Q74, Q75, Q77, Q78, Q79, Q80, Q81, Q82, Q83, Q84, clr, List.length_nil, List.length_cons, List.getElem?_cons_zero, List.getElem?_cons_succ, Nat.reduceAdd, Nat.zero_add, Nat.add_zero, Nat.reduceLeDiff, Nat.reduceSub, ↓reduceIte, List.drop_succ_cons, List.drop_zero, List.take_succ_cons, List.take_zero, Bool.false_eq_true, List.nil_append, List.cons_append, Bool.not_true, Bool.not_false, cond_true, cond_false, bne, Q85, Q86, Q87, Q88, Q89, Q90, Q91, Q92, Q93, Q94, Q95, Q96, Q97, Q98, Q110, Q111, Q116, Q117, Q118, Q119, Q120, Q121, Q122, Q123, Option.map_some, Option.map_none]
   rw [loop_normal (by rw [hv]; exact st)]
   have hp : putA g (t :: l') = ((putC g.next { g with next := g.next + 1 } t).1 ++ (putA (putC g.next { g with next := g.next + 1 } t).2 l').1, g.next :: (putA (putC g.next { g with next := g.next + 1 } t).2 l').2.1, (putA (putC g.next { g with next := g.next + 1 } t).2 l').2.2) := by
    cases t with | mk k s n m' =>
    have : k = 4 := of_decide_eq_true hct
    rw [putA, if_pos this]
   have hcl1 := putC_len g.next { g with next := g.next + 1 } (wfL_mem hwf t htm) hct
   have hkl := kT_le t
   have hnl := putC_next t g.next { g with next := g.next + 1 }
   have hcz : cL t.l + 1 ≤ zT t := by
    cases t with | mk k s n m' =>
    have := cL_le m'
    rw [zT]; simp only [Tm.l]; omega
   obtain ⟨hi', tl', x5, x6, x14, k1, k2, k3, k4⟩ := ih (i + 1) h3 _ _ (ks ++ [g.next]) (tl ++ [.box 24 e.cells]) (V60 b B es.length r c ((i + 1 : Nat) : Int) (.v (.int .i64 i)) (.ptr (hi ++ loc tc ks es.length tl).length 0) (.v (.bool true)) (.v (.bool true))) (by simp at hil; omega) hd' (by simp [hks]) cp3 (rs3.1.trans hB1) (by rw [List.length_append]; omega) (by rw [hnl]; simp only; omega) htl2 rfl
   refine ⟨hi', tl', x5, x6, x14, ?_, ?_, (rs1.trans rs3).trans k3, k4⟩
   ·rw [k1, hp, List.append_assoc]; rfl
   ·rw [hp, ← List.append_assoc]; exact k2
end Go.AE.YtinhjhkmpknbbaaDoor
end
