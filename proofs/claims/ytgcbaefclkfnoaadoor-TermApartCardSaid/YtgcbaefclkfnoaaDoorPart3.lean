/- Texts of this claim, put together. -/
import Derived.Test.YtgcbaefclkfnoaaDoorPart2
import Derived.Lib.QuoteLoop
import Derived.Lib.MapLaws
/-! A builder that lies in a caller's memory: a byte, a text laid behind. -/
section
set_option linter.unusedVariables false
set_option linter.unusedSimpArgs false
namespace Go.AE.YtgcbaefclkfnoaaDoor
open Go Go.AE Go.Proofs.YtgcbaefclkfnoaaDoor

structure BdP (p : AV) (H : List AO) (b rid ver : Nat) (l : List UInt8) : Prop where
  box : H[b]? = some (.box 61 [p, .own 1 rid ver 0 l.length])
  row : H[rid]? = some (.row 5 1 ver (l.map u8v) 0)
def Bd (H : List AO) (b rid : Nat) (l : List UInt8) : Prop := ∃ p ver, (p = .v (.pointer none) ∨ p = .ptr b 0) ∧ BdP p H b rid ver l
def Rst (b rid : Nat) (H H' : List AO) : Prop := H'.length = H.length ∧ ∀ j, j ≠ b → j ≠ rid → H'[j]? = H[j]?
theorem Rst.refl {b rid : Nat} (H : List AO) : Rst b rid H H := ⟨rfl, fun _ _ _ => rfl⟩
theorem Rst.trans {b rid : Nat} {H H' H'' : List AO} (a : Rst b rid H H') (c : Rst b rid H' H'') : Rst b rid H H'' := ⟨c.1.trans a.1, fun j h1 h2 => (c.2 j h1 h2).trans (a.2 j h1 h2)⟩
theorem BdP.ne {p : AV} {H : List AO} {b rid ver : Nat} {l : List UInt8} (h : BdP p H b rid ver l) : b ≠ rid := by
  rintro rfl
  have h1 := h.box
  rw [h.row] at h1; cases h1
theorem set_rst {b rid : Nat} {H : List AO} {x : AO} {j : Nat} (h : j = b ∨ j = rid) : Rst b rid H (H.set j x) := by
  refine ⟨by simp, fun k h1 h2 => ?_⟩
  rw [List.getElem?_set_ne]
  rcases h with rfl | rfl
  · exact fun e => h1 e.symm
  · exact fun e => h2 e.symm
theorem Bd.copy {H : List AO} {b rid : Nat} {l : List UInt8} (h : Bd H b rid l) : ∃ H1 ver, callW F 77 [.ptr b 0] H = some (.tup [], H1) ∧ BdP (.ptr b 0) H1 b rid ver l ∧ Rst b rid H H1 := by
  obtain ⟨p, ver, hp, hB⟩ := h
  have hne := hB.ne
  have hlt : b < H.length := (List.getElem?_eq_some_iff.1 hB.box).1
  rcases hp with rfl | rfl
  · refine ⟨H.set b (.box 61 [.ptr b 0, .own 1 rid ver 0 l.length]), ver, callW_oracle (g := copyG 61) rfl ?_, ⟨by simp [hlt], by rw [List.getElem?_set_ne hne]; exact hB.row⟩, set_rst (.inl rfl)⟩
    simp only [copyG, hB.box, if_true]
  · refine ⟨H, ver, callW_oracle (g := copyG 61) rfl ?_, hB, .refl H⟩
    simp only [copyG, hB.box, if_true]
theorem BdP.add {H : List AO} {b rid ver : Nat} {l : List UInt8} (h : BdP (.ptr b 0) H b rid ver l) {ys : List UInt8} (hy : ys ≠ []) (hl : l.length + ys.length ≤ 100000000) : ∃ H2 H3, evAppendL H 5 1 1 (.own 1 rid ver 0 l.length) (ys.map u8v) = some (.own 1 rid (ver + 1) 0 (l.length + ys.length), H2) ∧
    Q113 H2 1 (.ptr b 1) (.own 1 rid (ver + 1) 0 (l.length + ys.length)) = some H3 ∧ BdP (.ptr b 0) H3 b rid (ver + 1) (l ++ ys) ∧ Rst b rid H H3 := by
  have hne := h.ne
  have hlt : b < H.length := (List.getElem?_eq_some_iff.1 h.box).1
  have hlr : rid < H.length := (List.getElem?_eq_some_iff.1 h.row).1
  have hf : fits (l.length + ys.length) 1 = true := by
    unfold fits room
    rw [decide_eq_true_eq]
    constructor <;> omega
  have e1 : evAppendL H 5 1 1 (.own 1 rid ver 0 l.length) (ys.map u8v) = some (.own 1 rid (ver + 1) 0 (l.length + ys.length), H.set rid (.row 5 1 (ver + 1) ((l ++ ys).map u8v) 0)) := by
    have hys : ¬ ys.map u8v = [] := by simpa using hy
    have htk : ((l.map u8v).drop 0).take l.length = l.map u8v := by rw [List.drop_zero, List.take_of_length_le (by simp)]
    simp only [evAppendL, if_true, Nat.zero_add, rowAt, h.row, List.length_map, Nat.le_refl, and_self, rowT, Nat.zero_le, if_neg hys, hf, htk, Nat.zero_sub, List.map_append]
  have bx1 : (H.set rid (.row 5 1 (ver + 1) ((l ++ ys).map u8v) 0))[b]? = some (.box 61 [.ptr b 0, .own 1 rid ver 0 l.length]) := by
    rw [List.getElem?_set_ne (Ne.symm hne)]; exact h.box
  refine ⟨_, _, e1, bx_st bx1 (xs := [.own 1 rid (ver + 1) 0 (l.length + ys.length)]) rfl rfl (by simp), ⟨?_, ?_⟩, (set_rst (.inr rfl)).trans (set_rst (.inl rfl))⟩
  · simp [hlt, Q112]
  · rw [List.getElem?_set_ne hne]
    simp [hlr]
theorem Rst.below {H H' : List AO} {b rid ver : Nat} {l : List UInt8} (h : H.all (AO.below H.length) = true) (r : Rst b rid H H') (hB : BdP (.ptr b 0) H' b rid ver l) : H'.all (AO.below H'.length) = true := by
  have hlb : b < H'.length := (List.getElem?_eq_some_iff.1 hB.box).1
  have hlr : rid < H'.length := (List.getElem?_eq_some_iff.1 hB.row).1
  rw [List.all_eq_true] at h ⊢
  intro o ho
  obtain ⟨j, hj⟩ := List.getElem?_of_mem ho
  by_cases e1 : j = b
  · subst e1
    rw [hB.box] at hj; cases hj
    simp [AO.below, AV.below1, AV.below0, hlb, hlr]
  · by_cases e2 : j = rid
    · subst e2
      rw [hB.row] at hj; cases hj; rfl
    · rw [r.2 j e1 e2] at hj
      rw [r.1]
      exact h o (List.mem_of_getElem? hj)
theorem leave0 {c : CFun} {vars : List AV} {H : List AO} {B : Nat} (hB : H.length = B) (hb : H.all (AO.below B) = true) {a : CRes} {x : AV} (hc : c.res = [a]) (hr : resOf vars H a = some x) (hf : x.frz2 B H = some x) : leave B c (some (.ret, vars, H)) = some (x, H) := by
  have h1 := leave_own (c := c) (vars := vars) (H := H) (l := []) hB hb
  rw [List.append_nil] at h1
  rw [h1, hc, show [a].mapM (resOf vars H) = some [x] by simp [hr]]
  exact lvo_one (by rw [List.append_nil]; exact hf)
theorem g_nilI {vars env : List AV} : getO vars env (.k .nilIface) = .v .nilIface := rfl
theorem wbyte_ok {H : List AO} {b rid : Nat} {l : List UInt8} (h : Bd H b rid l) (hb : H.all (AO.below H.length) = true) (x : UInt8) (hl : l.length ≤ 90000000) :
    ∃ H', callW F 66 [.ptr b 0, .v (.int .u8 x.toNat)] H = some (.v .nilIface, H') ∧ Bd H' b rid (l ++ [x]) ∧ Rst b rid H H' ∧ H'.all (AO.below H'.length) = true := by
  obtain ⟨H1, ver, hc, hB1, hr1⟩ := h.copy
  obtain ⟨H2, H3, ha, hs, hB3, hr3⟩ := hB1.add (ys := [x]) (by simp) (by simp; omega)
  rw [show [x].length = 1 from rfl] at hs
  have hr := hr1.trans hr3
  have hb3 := hr.below hb hB3
  refine ⟨H3, callW_code (c := c66) rfl rfl 0 ?_, ⟨_, _, .inr rfl, hB3⟩, hr, hb3⟩
  have ld : Q76 H1 false 1 (.ptr b 1) = some (.own 1 rid ver 0 l.length) := by rw [bx_ld hB1.box]; rfl
  have sn : ∀ h : List AO, (AV.v (.int .u8 x.toNat)).snap1 h = some (.v (.int .u8 x.toNat)) := fun _ => rfl
  have b1 : ∀ h : List AO, bs1 h 1 (some (.v (.int .u8 x.toNat))) = some (.slc 1 true true [u8v x], h) := fun h => bs1_some rfl rfl
  have ap : evAppend H1 5 1 1 (.own 1 rid ver 0 l.length) (.slc 1 true true [u8v x]) = some (.own 1 rid (ver + 1) 0 (l.length + 1), H2) := by
    rw [evAppend, elems_one]; exact ha
  have lvv : leave H.length c66 (some (.ret, [.ptr b 0, .v (.int .u8 x.toNat), .v .nilIface], H3)) = some (.v .nilIface, H3) := leave0 hr.1 (by rw [← hr.1]; exact hb3) (a := .var 2) rfl rfl rfl
  rw [← lvv]
  congr 1
  simp only [c66, start, List.replicate, c66_0, c66_1, c66_2, c66_3, g_nilI, hc, e_callh, List.map_cons, List.map_nil, ld, sn, b1, Q104, e_append, ap, hs, Q0, Q1, Q2, Q3, Q4, Q5, Q6, Q7, Q8, Q9, Q10, Q11, Q12, Q13, Q14, Q15, Q16, Q17, Q18, Q19, Q20, Q21, Q22, Q23, Q24, Q25, Q26, Q27, Q28, Q29, Q30, Q31, Q32, Q33, Q35, Q36, Q37, Q38, Q39, Q40, Q41, Q42, Q43, Q44, Q45, Q46, Q47, Q48, Q49, Q50, Q51, Q52, Q53, Q54, Q55, Q56, Q57, Q58, Q59, Q60, Q61, Q62, Q63, Q64, Q65, Q66, Q67, Q68, Q69, Q70, Q71, Q72, Q73, Q99, Q100, Q101, Q102, Q103, Q74, Q75, Q77, Q78, Q79, Q80, Q81, Q82, Q83, Q84, clr, List.length_nil, List.length_cons, List.getElem?_cons_zero, List.getElem?_cons_succ, Nat.reduceAdd, Nat.zero_add, Nat.add_zero, Nat.reduceLeDiff, Nat.reduceSub, ↓reduceIte, List.drop_succ_cons, List.drop_zero, List.take_succ_cons, List.take_zero, Bool.false_eq_true, List.nil_append, List.cons_append, Bool.not_true, Bool.not_false, cond_true, cond_false, bne, Q85, Q86, Q87, Q88, Q89, Q90, Q91, Q92, Q93, Q94, Q95, Q96, Q97, Q98, Q110, Q111, Q116, Q117, Q118, Q119, Q120, Q121, Q122, Q123, Option.map_some, Option.map_none]
theorem e_apps {call : CallF} {vars env : List AV} {h : List AO} {ty : TypeId} {n : Nat} {s x : Opd} : evOp call vars env h (.apps ty n s x) = evAppS h ty n (getO vars env s) (getO vars env x) := rfl
theorem bytesL_bl (s : ByteArray) : bytesL s = (bl s).map u8v := rfl
theorem leave2 {c : CFun} {vars : List AV} {H : List AO} {B : Nat} (hB : H.length = B) (hb : H.all (AO.below B) = true) {a a' : CRes} {x x' : Value} (hc : c.res = [a, a']) (hr : resOf vars H a = some (.v x)) (hr' : resOf vars H a' = some (.v x')) : leave B c (some (.ret, vars, H)) = some (.tup [.v x, .v x'], H) := by
  have h1 := leave_own (c := c) (vars := vars) (H := H) (l := []) hB hb
  rw [List.append_nil] at h1
  rw [h1, hc, show [a, a'].mapM (resOf vars H) = some [.v x, .v x'] by simp [hr, hr']]
  exact lvo_two rfl rfl
theorem wstr_ok {H : List AO} {b rid : Nat} {l : List UInt8} (h : Bd H b rid l) (hb : H.all (AO.below H.length) = true) (s : ByteArray) (hs0 : bl s ≠ []) (hl : l.length + (bl s).length ≤ 100000000) :
    ∃ H', callW F 67 [.ptr b 0, .v (.string s)] H = some (.tup [.v (.int .i64 s.size), .v .nilIface], H') ∧ Bd H' b rid (l ++ bl s) ∧ Rst b rid H H' ∧ H'.all (AO.below H'.length) = true := by
  obtain ⟨H1, ver, hc, hB1, hr1⟩ := h.copy
  obtain ⟨H2, H3, ha, hs, hB3, hr3⟩ := hB1.add (ys := bl s) hs0 hl
  have hr := hr1.trans hr3
  have hb3 := hr.below hb hB3
  refine ⟨H3, callW_code (c := c67) rfl rfl 0 ?_, ⟨_, _, .inr rfl, hB3⟩, hr, hb3⟩
  have ld : Q76 H1 false 1 (.ptr b 1) = some (.own 1 rid ver 0 l.length) := by rw [bx_ld hB1.box]; rfl
  have ap : evAppS H1 5 1 (.own 1 rid ver 0 l.length) (.v (.string s)) = some (.own 1 rid (ver + 1) 0 (l.length + (bl s).length), H2) := ha
  have lvv : leave H.length c67 (some (.ret, [.ptr b 0, .v (.string s), .v (.int .i64 s.size), .v .nilIface], H3)) = some (.tup [.v (.int .i64 s.size), .v .nilIface], H3) := leave2 hr.1 (by rw [← hr.1]; exact hb3) (a := .var 2) (a' := .var 3) rfl rfl rfl
  rw [← lvv]
  congr 1
  simp only [c67, start, List.replicate, c67_0, c67_1, c67_2, c67_3, g_nilI, hc, e_callh, List.map_cons, List.map_nil, ld, e_apps, ap, hs, Q0, Q1, Q2, Q3, Q4, Q5, Q6, Q7, Q8, Q9, Q10, Q11, Q12, Q13, Q14, Q15, Q16, Q17, Q18, Q19, Q20, Q21, Q22, Q23, Q24, Q25, Q26, Q27, Q28, Q29, Q30, Q31, Q32, Q33, Q35, Q36, Q37, Q38, Q39, Q40, Q41, Q42, Q43, Q44, Q45, Q46, Q47, Q48, Q49, Q50, Q51, Q52, Q53, Q54, Q55, Q56, Q57, Q58, Q59, Q60, Q61, Q62, Q63, Q64, Q65, Q66, Q67, Q68, Q69, Q70, Q71, Q72, Q73, Q99, Q100, Q101, Q102, Q103, Q74, Q75, Q77, Q78, Q79, Q80, Q81, Q82, Q83, Q84, clr, List.length_nil, List.length_cons, List.getElem?_cons_zero, List.getElem?_cons_succ, Nat.reduceAdd, Nat.zero_add, Nat.add_zero, Nat.reduceLeDiff, Nat.reduceSub, ↓reduceIte, List.drop_succ_cons, List.drop_zero, List.take_succ_cons, List.take_zero, Bool.false_eq_true, List.nil_append, List.cons_append, Bool.not_true, Bool.not_false, cond_true, cond_false, bne, Q85, Q86, Q87, Q88, Q89, Q90, Q91, Q92, Q93, Q94, Q95, Q96, Q97, Q98, Q110, Q111, Q116, Q117, Q118, Q119, Q120, Q121, Q122, Q123, Option.map_some, Option.map_none]
end Go.AE.YtgcbaefclkfnoaaDoor
end

/-! A rune laid behind a builder's bytes. -/
section
set_option linter.unusedVariables false
set_option linter.unusedSimpArgs false
namespace Go.AE.YtgcbaefclkfnoaaDoor
open Go Go.AE Go.Proofs.YtgcbaefclkfnoaaDoor

def orW (a b : Int) : Int := IntKind.u8.wrap ((BitVec.ofInt 8 a ||| BitVec.ofInt 8 b).toNat : Int)
def andW (a b : Int) : Int := IntKind.u8.wrap ((BitVec.ofInt 8 a &&& BitVec.ofInt 8 b).toNat : Int)
theorem or_tab : (∀ x : Fin 32, orW 192 (x.val : Int) = ((192 + x.val : Nat) : Int)) ∧ (∀ x : Fin 16, orW 224 (x.val : Int) = ((224 + x.val : Nat) : Int)) ∧ (∀ x : Fin 8, orW 240 (x.val : Int) = ((240 + x.val : Nat) : Int)) ∧ (∀ x : Fin 64, orW 128 (x.val : Int) = ((128 + x.val : Nat) : Int)) ∧ (∀ x : Fin 256, andW (x.val : Int) 63 = ((x.val % 64 : Nat) : Int)) := by
  refine ⟨?_, ?_, ?_, ?_, ?_⟩ <;> decide +kernel
theorem e_shf {call : CallF} {vars env : List AV} {h : List AO} {l : Bool} {x y : Opd} : evOp call vars env h (.shf l x y) = withH h (evShf l (getO vars env x) (getO vars env y)) := by
  simp only [evOp]; cases evShf l (getO vars env x) (getO vars env y) <;> rfl
theorem shr_nat (c n : Nat) (hn : n ≤ 32) : evShf false (.v (.int .i32 (c : Int))) (.v (.int .u64 (n : Int))) = some (.v (.int .i32 ((c / 2 ^ n : Nat) : Int))) := by
  simp only [evShf]
  rw [if_pos (by omega)]
  have h1 : min ((n : Int).toNat) IntKind.i32.bits = n := by
    have : IntKind.i32.bits = 32 := rfl
    rw [this, Int.toNat_natCast]; omega
  rw [h1]
  simp only [Bool.false_eq_true, if_false]
  rw [Int.fdiv_eq_ediv_of_nonneg _ (by exact_mod_cast Nat.zero_le _)]
  norm_cast
theorem u8_nat (c : Nat) : IntKind.u8.wrap (c : Int) = ((c % 256 : Nat) : Int) := by
  simp [IntKind.wrap, IntKind.bits, IntKind.signed]
theorem u8n {n : Nat} (h : n < 256) : AV.v (.int .u8 (n : Int)) = u8v (UInt8.ofNat n) := by
  have : (UInt8.ofNat n).toNat = n := by simp only [UInt8.toNat_ofNat']; omega
  rw [u8v, this]
theorem enc_arg {c : Nat} (hv : Utf8.valid (c : Int) = true) : (if Utf8.valid (c : Int) = true then (c : Int).toNat else Utf8.runeError) = c := by
  rw [if_pos hv, Int.toNat_natCast]
theorem enc1 {c : Nat} (hv : Utf8.valid (c : Int) = true) (h1 : c < 128) : bl (Utf8.encode (c : Int)) = [UInt8.ofNat c] := by
  have hm := enc_arg hv
  unfold Utf8.encode
  generalize (if Utf8.valid (c : Int) = true then (c : Int).toNat else Utf8.runeError) = m at hm ⊢
  subst hm
  simp only
  rw [if_pos h1]; exact Eq.refl _
theorem enc2 {c : Nat} (hv : Utf8.valid (c : Int) = true) (h1 : ¬ c < 128) (h2 : c < 2048) : bl (Utf8.encode (c : Int)) = [UInt8.ofNat (192 + c / 64), UInt8.ofNat (128 + c % 64)] := by
  have hm := enc_arg hv
  unfold Utf8.encode
  generalize (if Utf8.valid (c : Int) = true then (c : Int).toNat else Utf8.runeError) = m at hm ⊢
  subst hm
  simp only
  rw [if_neg h1, if_pos h2]; exact Eq.refl _
theorem enc3 {c : Nat} (hv : Utf8.valid (c : Int) = true) (h1 : ¬ c < 128) (h2 : ¬ c < 2048) (h3 : c < 65536) : bl (Utf8.encode (c : Int)) = [UInt8.ofNat (224 + c / 4096), UInt8.ofNat (128 + c / 64 % 64), UInt8.ofNat (128 + c % 64)] := by
  have hm := enc_arg hv
  unfold Utf8.encode
  generalize (if Utf8.valid (c : Int) = true then (c : Int).toNat else Utf8.runeError) = m at hm ⊢
  subst hm
  simp only
  rw [if_neg h1, if_neg h2, if_pos h3]; exact Eq.refl _
theorem enc4 {c : Nat} (hv : Utf8.valid (c : Int) = true) (h1 : ¬ c < 128) (h2 : ¬ c < 2048) (h3 : ¬ c < 65536) : bl (Utf8.encode (c : Int)) = [UInt8.ofNat (240 + c / 262144), UInt8.ofNat (128 + c / 4096 % 64), UInt8.ofNat (128 + c / 64 % 64), UInt8.ofNat (128 + c % 64)] := by
  have hm := enc_arg hv
  unfold Utf8.encode
  generalize (if Utf8.valid (c : Int) = true then (c : Int).toNat else Utf8.runeError) = m at hm ⊢
  subst hm
  simp only
  rw [if_neg h1, if_neg h2, if_neg h3]; exact Eq.refl _
theorem radd {H : List AO} {rid ver : Nat} {l : List UInt8} (hrow : H[rid]? = some (.row 5 1 ver (l.map u8v) 0)) {ys : List UInt8} (hy : ys ≠ []) (hl : l.length + ys.length ≤ 100000000) (ex nn : Bool) : evAppend H 5 1 1 (.own 1 rid ver 0 l.length) (.slc 1 ex nn (ys.map u8v)) = some (.own 1 rid (ver + 1) 0 (l.length + ys.length), H.set rid (.row 5 1 (ver + 1) ((l ++ ys).map u8v) 0)) := by
  have hf : fits (l.length + ys.length) 1 = true := by
    unfold fits room
    rw [decide_eq_true_eq]
    constructor <;> omega
  have hys : ¬ ys.map u8v = [] := by simpa using hy
  have htk : ((l.map u8v).drop 0).take l.length = l.map u8v := by rw [List.drop_zero, List.take_of_length_le (by simp)]
  simp only [evAppend, elemsOf, evAppendL, if_true, Nat.zero_add, rowAt, hrow, List.length_map, Nat.le_refl, and_self, rowT, Nat.zero_le, if_neg hys, hf, htk, Nat.zero_sub, List.map_append]
theorem row_leave {H : List AO} {rid ver : Nat} {L : List UInt8} {c : CFun} {vars : List AV} {i : Nat} (hlt : rid < H.length) (hb : H.all (AO.below H.length) = true) (hc : c.res = [.var i]) (hv : vars.getD i .junk = .own 1 rid (ver + 1) 0 L.length) : leave H.length c (some (.ret, vars, H.set rid (.row 5 1 (ver + 1) (L.map u8v) 0))) = some (.own 1 rid (ver + 1) 0 L.length, H.set rid (.row 5 1 (ver + 1) (L.map u8v) 0)) := by
  have hb2 : (H.set rid (.row 5 1 (ver + 1) (L.map u8v) 0)).all (AO.below H.length) = true := by
    rw [List.all_eq_true] at hb ⊢
    intro o ho
    rcases List.mem_or_eq_of_mem_set ho with h | rfl
    · exact hb o h
    · rfl
  refine leave0 (by simp) hb2 hc (by simp only [resOf, hv]) ?_
  simp [AV.frz2, AV.frz1, AV.frz0, rowAt, hlt]
theorem fo192 {x : Nat} (h : x < 32) : Q78 .or (.v (.int .u8 192)) (.v (.int .u8 (x : Int))) = some (.v (.int .u8 ((192 + x : Nat) : Int))) := by
  show some (AV.v (.int .u8 (orW 192 (x : Int)))) = _
  rw [or_tab.1 ⟨x, h⟩]
theorem fo224 {x : Nat} (h : x < 16) : Q78 .or (.v (.int .u8 224)) (.v (.int .u8 (x : Int))) = some (.v (.int .u8 ((224 + x : Nat) : Int))) := by
  show some (AV.v (.int .u8 (orW 224 (x : Int)))) = _
  rw [or_tab.2.1 ⟨x, h⟩]
theorem fo240 {x : Nat} (h : x < 8) : Q78 .or (.v (.int .u8 240)) (.v (.int .u8 (x : Int))) = some (.v (.int .u8 ((240 + x : Nat) : Int))) := by
  show some (AV.v (.int .u8 (orW 240 (x : Int)))) = _
  rw [or_tab.2.2.1 ⟨x, h⟩]
theorem fo128 {x : Nat} (h : x < 64) : Q78 .or (.v (.int .u8 128)) (.v (.int .u8 (x : Int))) = some (.v (.int .u8 ((128 + x : Nat) : Int))) := by
  show some (AV.v (.int .u8 (orW 128 (x : Int)))) = _
  rw [or_tab.2.2.2.1 ⟨x, h⟩]
theorem fa63 {x : Nat} (h : x < 256) : Q78 .and (.v (.int .u8 (x : Int))) (.v (.int .u8 63)) = some (.v (.int .u8 ((x % 64 : Nat) : Int))) := by
  show some (AV.v (.int .u8 (andW (x : Int) 63))) = _
  rw [or_tab.2.2.2.2 ⟨x, h⟩]
def bu3 (h : List AO) (a b c : AV) : Option (AV × List AO) := (evElems [] [a, b, c] h 1 (List.replicate 3 (zeroEl [.int .u8 0])) [(0, .loc 0), (1, .loc 1), (2, .loc 2)]).map fun l => (.slc 1 true true l, h)
theorem e_bu3 {call : CallF} {vars env : List AV} {h : List AO} {x0 x1 x2 : Opd} : evOp call vars env h (.bslice 1 [(.int .u8 0)] 3 [(0, x0), (1, x1), (2, x2)]) = bu3 h (getO vars env x0) (getO vars env x1) (getO vars env x2) := by
  simp only [evOp, bu3, evElems, getO]
  rfl
theorem bu3_some {h : List AO} {a b c : Int} : bu3 h (.v (.int .u8 a)) (.v (.int .u8 b)) (.v (.int .u8 c)) = some (.slc 1 true true [.v (.int .u8 a), .v (.int .u8 b), .v (.int .u8 c)], h) := rfl
def bu4 (h : List AO) (a b c d : AV) : Option (AV × List AO) := (evElems [] [a, b, c, d] h 1 (List.replicate 4 (zeroEl [.int .u8 0])) [(0, .loc 0), (1, .loc 1), (2, .loc 2), (3, .loc 3)]).map fun l => (.slc 1 true true l, h)
theorem e_bu4 {call : CallF} {vars env : List AV} {h : List AO} {x0 x1 x2 x3 : Opd} : evOp call vars env h (.bslice 1 [(.int .u8 0)] 4 [(0, x0), (1, x1), (2, x2), (3, x3)]) = bu4 h (getO vars env x0) (getO vars env x1) (getO vars env x2) (getO vars env x3) := by
  simp only [evOp, bu4, evElems, getO]
  rfl
theorem bu4_some {h : List AO} {a b c d : Int} : bu4 h (.v (.int .u8 a)) (.v (.int .u8 b)) (.v (.int .u8 c)) (.v (.int .u8 d)) = some (.slc 1 true true [.v (.int .u8 a), .v (.int .u8 b), .v (.int .u8 c), .v (.int .u8 d)], h) := rfl
theorem run95_2 {call : CallF} {K : Nat} {H H' : List AO} {O O' : AV} {c d q e m x y : Int} (w32 : IntKind.u32.wrap c = d) (f1 : Q78 .leq (.v (.int .u32 d)) (.v (.int .u32 2047)) = some (.v (.bool true)))
    (s6 : evShf false (.v (.int .i32 c)) (.v (.int .u64 6)) = some (.v (.int .i32 q))) (m1 : IntKind.u8.wrap q = e) (o1 : Q78 .or (.v (.int .u8 192)) (.v (.int .u8 e)) = some (.v (.int .u8 x)))
    (m2 : IntKind.u8.wrap c = m) {r : Int} (a1 : Q78 .and (.v (.int .u8 m)) (.v (.int .u8 63)) = some (.v (.int .u8 r))) (o2 : Q78 .or (.v (.int .u8 128)) (.v (.int .u8 r)) = some (.v (.int .u8 y)))
    (ap : evAppend H 5 1 1 O (.slc 1 true true [.v (.int .u8 x), .v (.int .u8 y)]) = some (O', H')) :
    exec call K c95.body [O, .v (.int .i32 c), .v undef, .v undef, .v undef, .v undef, .v undef] H = some (.ret, [O, .v (.int .i32 c), O', .v (.int .u32 d), .v (.bool true), .v undef, .v undef], H') := by
  have b2 : ∀ (h : List AO) (a b : Int), bs2 h 1 (some (.v (.int .u8 a))) (some (.v (.int .u8 b))) = some (.slc 1 true true [.v (.int .u8 a), .v (.int .u8 b)], h) := fun _ _ _ => rfl
  have sn : ∀ (h : List AO) (k : IntKind) (x : Int), (AV.v (.int k x)).snap1 h = some (.v (.int k x)) := fun _ _ _ => rfl
  simp only [c95, c95_0, c95_1, c95_2, c95_3, e_conv, cvK_int, w32, f1, e_shf, s6, m1, m2, o1, a1, o2, sn, Q105, b2, e_append, ap, Q0, Q1, Q2, Q3, Q4, Q5, Q6, Q7, Q8, Q9, Q10, Q11, Q12, Q13, Q14, Q15, Q16, Q17, Q18, Q19, Q20, Q21, Q22, Q23, Q24, Q25, Q26, Q27, Q28, Q29, Q30, Q31, Q32, Q33, Q35, Q36, Q37, Q38, Q39, Q40, Q41, Q42, Q43, Q44, Q45, Q46, Q47, Q48, Q49, Q50, Q51, Q52, Q53, Q54, Q55, Q56, Q57, Q58, Q59, Q60, Q61, Q62, Q63, Q64, Q65, Q66, Q67, Q68, Q69, Q70, Q71, Q72, Q73, Q99, Q100, Q101, Q102, Q103, Q74, Q75, Q77, Q78, Q79, Q80, Q81, Q82, Q83, Q84, clr, List.length_nil, List.length_cons, List.getElem?_cons_zero, List.getElem?_cons_succ, Nat.reduceAdd, Nat.zero_add, Nat.add_zero, Nat.reduceLeDiff, Nat.reduceSub, ↓reduceIte, List.drop_succ_cons, List.drop_zero, List.take_succ_cons, List.take_zero, Bool.false_eq_true, List.nil_append, List.cons_append, Bool.not_true, Bool.not_false, cond_true, cond_false, bne, Q85, Q86, Q87, Q88, Q89, Q90, Q91, Q92, Q93, Q94, Q95, Q96, Q97, Q98, Q110, Q111, Q116, Q117, Q118, Q119, Q120, Q121, Q122, Q123, Option.map_some, Option.map_none, -Q78]
theorem far2 {H : List AO} {rid ver : Nat} {l : List UInt8} {c : Nat} (hrow : H[rid]? = some (.row 5 1 ver (l.map u8v) 0)) (hb : H.all (AO.below H.length) = true) (hl : l.length ≤ 90000000) (hv : Utf8.valid (c : Int) = true) (h1 : ¬ c < 128) (h2 : c < 2048) :
    callW F 95 [.own 1 rid ver 0 l.length, .v (.int .i32 (c : Int))] H = some (.own 1 rid (ver + 1) 0 (l ++ encL c).length, H.set rid (.row 5 1 (ver + 1) ((l ++ encL c).map u8v) 0)) := by
  have hlt : rid < H.length := (List.getElem?_eq_some_iff.1 hrow).1
  have he : encL c = [UInt8.ofNat (192 + c / 64), UInt8.ofNat (128 + c % 64)] := enc2 hv h1 h2
  have w32 : IntKind.u32.wrap (c : Int) = (c : Int) := by
    simp [IntKind.wrap, IntKind.bits, IntKind.signed]; omega
  have f1 : Q78 .leq (.v (.int .u32 (c : Int))) (.v (.int .u32 2047)) = some (.v (.bool true)) := by
    show some (AV.v (.bool (decide ((c : Int) ≤ 2047)))) = _
    rw [decide_eq_true (by omega)]
  have s6 : evShf false (.v (.int .i32 (c : Int))) (.v (.int .u64 6)) = some (.v (.int .i32 ((c / 64 : Nat) : Int))) := shr_nat c 6 (by decide)
  have m1 : IntKind.u8.wrap ((c / 64 : Nat) : Int) = ((c / 64 : Nat) : Int) := by rw [u8_nat, Nat.mod_eq_of_lt (by omega)]
  have m2 := u8_nat c
  have o1 := fo192 (x := c / 64) (by omega)
  have a1 := fa63 (x := c % 256) (by omega)
  have o2 := fo128 (x := c % 256 % 64) (by omega)
  have ap := radd hrow (ys := encL c) (by rw [he]; simp) (by rw [he]; simp only [List.length_cons, List.length_nil]; omega) true true
  rw [← List.length_append] at ap
  have hm : (encL c).map u8v = [.v (.int .u8 ((192 + c / 64 : Nat) : Int)), .v (.int .u8 ((128 + c % 256 % 64 : Nat) : Int))] := by
    rw [he, u8n (by omega), u8n (by omega), show c % 256 % 64 = c % 64 by omega]; rfl
  rw [hm] at ap
  generalize l ++ encL c = L at ap ⊢
  refine callW_code (c := c95) rfl rfl 0 ?_
  have lvv : leave H.length c95 (some (.ret, [.own 1 rid ver 0 l.length, .v (.int .i32 (c : Int)), .own 1 rid (ver + 1) 0 L.length, .v (.int .u32 (c : Int)), .v (.bool true), .v undef, .v undef], H.set rid (.row 5 1 (ver + 1) (L.map u8v) 0))) = _ := row_leave (c := c95) (i := 2) hlt hb rfl rfl
  rw [← lvv]
  exact congrArg (leave H.length c95) (run95_2 w32 f1 s6 m1 o1 m2 a1 o2 ap)
theorem run95_3 {call : CallF} {K : Nat} {H H' : List AO} {O O' : AV} {c d q1 q2 e1 e2 m r1 r2 x y z : Int} {b : Bool} (w32 : IntKind.u32.wrap c = d) (f1 : Q78 .leq (.v (.int .u32 d)) (.v (.int .u32 2047)) = some (.v (.bool false)))
    (f2 : Q78 .lss (.v (.int .u32 d)) (.v (.int .u32 55296)) = some (.v (.bool b))) (f3 : b = false → Q78 .lss (.v (.int .u32 57343)) (.v (.int .u32 d)) = some (.v (.bool true))) (f4 : b = false → Q78 .leq (.v (.int .u32 d)) (.v (.int .u32 65535)) = some (.v (.bool true)))
    (s12 : evShf false (.v (.int .i32 c)) (.v (.int .u64 12)) = some (.v (.int .i32 q1))) (n1 : IntKind.u8.wrap q1 = e1) (o1 : Q78 .or (.v (.int .u8 224)) (.v (.int .u8 e1)) = some (.v (.int .u8 x)))
    (s6 : evShf false (.v (.int .i32 c)) (.v (.int .u64 6)) = some (.v (.int .i32 q2))) (n2 : IntKind.u8.wrap q2 = e2) (a1 : Q78 .and (.v (.int .u8 e2)) (.v (.int .u8 63)) = some (.v (.int .u8 r1))) (o2 : Q78 .or (.v (.int .u8 128)) (.v (.int .u8 r1)) = some (.v (.int .u8 y)))
    (m2 : IntKind.u8.wrap c = m) (a2 : Q78 .and (.v (.int .u8 m)) (.v (.int .u8 63)) = some (.v (.int .u8 r2))) (o3 : Q78 .or (.v (.int .u8 128)) (.v (.int .u8 r2)) = some (.v (.int .u8 z)))
    (ap : evAppend H 5 1 1 O (.slc 1 true true [.v (.int .u8 x), .v (.int .u8 y), .v (.int .u8 z)]) = some (O', H')) :
    exec call K c95.body [O, .v (.int .i32 c), .v undef, .v undef, .v undef, .v undef, .v undef] H = some (.ret, [O, .v (.int .i32 c), O', .v (.int .u32 d), .v (.bool false), .v (.bool true), .v undef], H') := by
  cases b with
  | true => simp only [c95, c95_0, c95_1, c95_2, c95_4, c95_6, e_conv, cvK_int, w32, f1, f2, e_shf, s12, s6, n1, n2, m2, o1, a1, o2, a2, o3, e_bu3, bu3_some, e_append, ap, Q0, Q1, Q2, Q3, Q4, Q5, Q6, Q7, Q8, Q9, Q10, Q11, Q12, Q13, Q14, Q15, Q16, Q17, Q18, Q19, Q20, Q21, Q22, Q23, Q24, Q25, Q26, Q27, Q28, Q29, Q30, Q31, Q32, Q33, Q35, Q36, Q37, Q38, Q39, Q40, Q41, Q42, Q43, Q44, Q45, Q46, Q47, Q48, Q49, Q50, Q51, Q52, Q53, Q54, Q55, Q56, Q57, Q58, Q59, Q60, Q61, Q62, Q63, Q64, Q65, Q66, Q67, Q68, Q69, Q70, Q71, Q72, Q73, Q99, Q100, Q101, Q102, Q103, Q74, Q75, Q77, Q78, Q79, Q80, Q81, Q82, Q83, Q84, clr, List.length_nil, List.length_cons, List.getElem?_cons_zero, List.getElem?_cons_succ, Nat.reduceAdd, Nat.zero_add, Nat.add_zero, Nat.reduceLeDiff, Nat.reduceSub, ↓reduceIte, List.drop_succ_cons, List.drop_zero, List.take_succ_cons, List.take_zero, Bool.false_eq_true, List.nil_append, List.cons_append, Bool.not_true, Bool.not_false, cond_true, cond_false, bne, Q85, Q86, Q87, Q88, Q89, Q90, Q91, Q92, Q93, Q94, Q95, Q96, Q97, Q98, Q110, Q111, Q116, Q117, Q118, Q119, Q120, Q121, Q122, Q123, Option.map_some, Option.map_none, -Q78]
  | false =>
    have f3 := f3 rfl
    have f4 := f4 rfl
    simp only [c95, c95_0, c95_1, c95_2, c95_4, c95_5, c95_6, e_conv, cvK_int, w32, f1, f2, f3, f4, e_shf, s12, s6, n1, n2, m2, o1, a1, o2, a2, o3, e_bu3, bu3_some, e_append, ap, Q0, Q1, Q2, Q3, Q4, Q5, Q6, Q7, Q8, Q9, Q10, Q11, Q12, Q13, Q14, Q15, Q16, Q17, Q18, Q19, Q20, Q21, Q22, Q23, Q24, Q25, Q26, Q27, Q28, Q29, Q30, Q31, Q32, Q33, Q35, Q36, Q37, Q38, Q39, Q40, Q41, Q42, Q43, Q44, Q45, Q46, Q47, Q48, Q49, Q50, Q51, Q52, Q53, Q54, Q55, Q56, Q57, Q58, Q59, Q60, Q61, Q62, Q63, Q64, Q65, Q66, Q67, Q68, Q69, Q70, Q71, Q72, Q73, Q99, Q100, Q101, Q102, Q103, Q74, Q75, Q77, Q78, Q79, Q80, Q81, Q82, Q83, Q84, clr, List.length_nil, List.length_cons, List.getElem?_cons_zero, List.getElem?_cons_succ, Nat.reduceAdd, Nat.zero_add, Nat.add_zero, Nat.reduceLeDiff, Nat.reduceSub, ↓reduceIte, List.drop_succ_cons, List.drop_zero, List.take_succ_cons, List.take_zero, Bool.false_eq_true, List.nil_append, List.cons_append, Bool.not_true, Bool.not_false, cond_true, cond_false, bne, Q85, Q86, Q87, Q88, Q89, Q90, Q91, Q92, Q93, Q94, Q95, Q96, Q97, Q98, Q110, Q111, Q116, Q117, Q118, Q119, Q120, Q121, Q122, Q123, Option.map_some, Option.map_none, -Q78]
theorem far3 {H : List AO} {rid ver : Nat} {l : List UInt8} {c : Nat} (hrow : H[rid]? = some (.row 5 1 ver (l.map u8v) 0)) (hb : H.all (AO.below H.length) = true) (hl : l.length ≤ 90000000) (hv : Utf8.valid (c : Int) = true) (h2 : ¬ c < 2048) (h3 : c < 65536) (h4 : c < 55296 ∨ 57343 < c) :
    callW F 95 [.own 1 rid ver 0 l.length, .v (.int .i32 (c : Int))] H = some (.own 1 rid (ver + 1) 0 (l ++ encL c).length, H.set rid (.row 5 1 (ver + 1) ((l ++ encL c).map u8v) 0)) := by
  have hlt : rid < H.length := (List.getElem?_eq_some_iff.1 hrow).1
  have he : encL c = [UInt8.ofNat (224 + c / 4096), UInt8.ofNat (128 + c / 64 % 64), UInt8.ofNat (128 + c % 64)] := enc3 hv (by omega) h2 h3
  have w32 : IntKind.u32.wrap (c : Int) = (c : Int) := by
    simp [IntKind.wrap, IntKind.bits, IntKind.signed]; omega
  have f1 : Q78 .leq (.v (.int .u32 (c : Int))) (.v (.int .u32 2047)) = some (.v (.bool false)) := by
    show some (AV.v (.bool (decide ((c : Int) ≤ 2047)))) = _
    rw [decide_eq_false (by omega)]
  have f2 : Q78 .lss (.v (.int .u32 (c : Int))) (.v (.int .u32 55296)) = some (.v (.bool (decide (c < 55296)))) := by
    show some (AV.v (.bool (decide ((c : Int) < 55296)))) = _
    by_cases e : c < 55296
    · rw [decide_eq_true e, decide_eq_true (by omega)]
    · rw [decide_eq_false e, decide_eq_false (by omega)]
  have f3 : decide (c < 55296) = false → Q78 .lss (.v (.int .u32 57343)) (.v (.int .u32 (c : Int))) = some (.v (.bool true)) := by
    intro e
    have e := of_decide_eq_false e
    show some (AV.v (.bool (decide ((57343 : Int) < (c : Int))))) = _
    rw [decide_eq_true (by omega)]
  have f4 : decide (c < 55296) = false → Q78 .leq (.v (.int .u32 (c : Int))) (.v (.int .u32 65535)) = some (.v (.bool true)) := by
    intro e
    show some (AV.v (.bool (decide ((c : Int) ≤ 65535)))) = _
    rw [decide_eq_true (by omega)]
  have s6 : evShf false (.v (.int .i32 (c : Int))) (.v (.int .u64 6)) = some (.v (.int .i32 ((c / 64 : Nat) : Int))) := shr_nat c 6 (by decide)
  have s12 : evShf false (.v (.int .i32 (c : Int))) (.v (.int .u64 12)) = some (.v (.int .i32 ((c / 4096 : Nat) : Int))) := shr_nat c 12 (by decide)
  have n1 : IntKind.u8.wrap ((c / 4096 : Nat) : Int) = ((c / 4096 : Nat) : Int) := by rw [u8_nat, Nat.mod_eq_of_lt (by omega)]
  have n2 := u8_nat (c / 64)
  have m2 := u8_nat c
  have o1 := fo224 (x := c / 4096) (by omega)
  have a1 := fa63 (x := c / 64 % 256) (by omega)
  have o2 := fo128 (x := c / 64 % 256 % 64) (by omega)
  have a2 := fa63 (x := c % 256) (by omega)
  have o3 := fo128 (x := c % 256 % 64) (by omega)
  have ap := radd hrow (ys := encL c) (by rw [he]; simp) (by rw [he]; simp only [List.length_cons, List.length_nil]; omega) true true
  rw [← List.length_append] at ap
  have hm : (encL c).map u8v = [.v (.int .u8 ((224 + c / 4096 : Nat) : Int)), .v (.int .u8 ((128 + c / 64 % 256 % 64 : Nat) : Int)), .v (.int .u8 ((128 + c % 256 % 64 : Nat) : Int))] := by
    rw [he, u8n (by omega), u8n (by omega), u8n (by omega), show c % 256 % 64 = c % 64 by omega, show c / 64 % 256 % 64 = c / 64 % 64 by omega]; rfl
  rw [hm] at ap
  generalize l ++ encL c = L at ap ⊢
  refine callW_code (c := c95) rfl rfl 0 ?_
  have lvv : leave H.length c95 (some (.ret, [.own 1 rid ver 0 l.length, .v (.int .i32 (c : Int)), .own 1 rid (ver + 1) 0 L.length, .v (.int .u32 (c : Int)), .v (.bool false), .v (.bool true), .v undef], H.set rid (.row 5 1 (ver + 1) (L.map u8v) 0))) = _ := row_leave (c := c95) (i := 2) hlt hb rfl rfl
  rw [← lvv]
  exact congrArg (leave H.length c95) (run95_3 w32 f1 f2 f3 f4 s12 n1 o1 s6 n2 a1 o2 m2 a2 o3 ap)
theorem run95_4 {call : CallF} {K : Nat} {H H' : List AO} {O O' : AV} {c d q0 q1 q2 e0 e1 e2 m r0 r1 r2 x y z w : Int} (w32 : IntKind.u32.wrap c = d) (f1 : Q78 .leq (.v (.int .u32 d)) (.v (.int .u32 2047)) = some (.v (.bool false)))
    (f2 : Q78 .lss (.v (.int .u32 d)) (.v (.int .u32 55296)) = some (.v (.bool false))) (f3 : Q78 .lss (.v (.int .u32 57343)) (.v (.int .u32 d)) = some (.v (.bool true))) (f4 : Q78 .leq (.v (.int .u32 d)) (.v (.int .u32 65535)) = some (.v (.bool false)))
    (f5 : Q78 .gtr (.v (.int .u32 d)) (.v (.int .u32 65535)) = some (.v (.bool true))) (f6 : Q78 .leq (.v (.int .u32 d)) (.v (.int .u32 1114111)) = some (.v (.bool true)))
    (s18 : evShf false (.v (.int .i32 c)) (.v (.int .u64 18)) = some (.v (.int .i32 q0))) (n0 : IntKind.u8.wrap q0 = e0) (o0 : Q78 .or (.v (.int .u8 240)) (.v (.int .u8 e0)) = some (.v (.int .u8 x)))
    (s12 : evShf false (.v (.int .i32 c)) (.v (.int .u64 12)) = some (.v (.int .i32 q1))) (n1 : IntKind.u8.wrap q1 = e1) (a0 : Q78 .and (.v (.int .u8 e1)) (.v (.int .u8 63)) = some (.v (.int .u8 r0))) (o1 : Q78 .or (.v (.int .u8 128)) (.v (.int .u8 r0)) = some (.v (.int .u8 y)))
    (s6 : evShf false (.v (.int .i32 c)) (.v (.int .u64 6)) = some (.v (.int .i32 q2))) (n2 : IntKind.u8.wrap q2 = e2) (a1 : Q78 .and (.v (.int .u8 e2)) (.v (.int .u8 63)) = some (.v (.int .u8 r1))) (o2 : Q78 .or (.v (.int .u8 128)) (.v (.int .u8 r1)) = some (.v (.int .u8 z)))
    (m2 : IntKind.u8.wrap c = m) (a2 : Q78 .and (.v (.int .u8 m)) (.v (.int .u8 63)) = some (.v (.int .u8 r2))) (o3 : Q78 .or (.v (.int .u8 128)) (.v (.int .u8 r2)) = some (.v (.int .u8 w)))
    (ap : evAppend H 5 1 1 O (.slc 1 true true [.v (.int .u8 x), .v (.int .u8 y), .v (.int .u8 z), .v (.int .u8 w)]) = some (O', H')) :
    exec call K c95.body [O, .v (.int .i32 c), .v undef, .v undef, .v undef, .v undef, .v undef] H = some (.ret, [O, .v (.int .i32 c), O', .v (.int .u32 d), .v (.bool false), .v (.bool false), .v (.bool true)], H') := by
  simp only [c95, c95_0, c95_1, c95_2, c95_4, c95_5, c95_7, c95_8, e_conv, cvK_int, w32, f1, f2, f3, f4, f5, f6, e_shf, s18, s12, s6, n0, n1, n2, m2, o0, o1, a0, a1, o2, a2, o3, e_bu4, bu4_some, e_append, ap, Q0, Q1, Q2, Q3, Q4, Q5, Q6, Q7, Q8, Q9, Q10, Q11, Q12, Q13, Q14, Q15, Q16, Q17, Q18, Q19, Q20, Q21, Q22, Q23, Q24, Q25, Q26, Q27, Q28, Q29, Q30, Q31, Q32, Q33, Q35, Q36, Q37, Q38, Q39, Q40, Q41, Q42, Q43, Q44, Q45, Q46, Q47, Q48, Q49, Q50, Q51, Q52, Q53, Q54, Q55, Q56, Q57, Q58, Q59, Q60, Q61, Q62, Q63, Q64, Q65, Q66, Q67, Q68, Q69, Q70, Q71, Q72, Q73, Q99, Q100, Q101, Q102, Q103, Q74, Q75, Q77, Q78, Q79, Q80, Q81, Q82, Q83, Q84, clr, List.length_nil, List.length_cons, List.getElem?_cons_zero, List.getElem?_cons_succ, Nat.reduceAdd, Nat.zero_add, Nat.add_zero, Nat.reduceLeDiff, Nat.reduceSub, ↓reduceIte, List.drop_succ_cons, List.drop_zero, List.take_succ_cons, List.take_zero, Bool.false_eq_true, List.nil_append, List.cons_append, Bool.not_true, Bool.not_false, cond_true, cond_false, bne, Q85, Q86, Q87, Q88, Q89, Q90, Q91, Q92, Q93, Q94, Q95, Q96, Q97, Q98, Q110, Q111, Q116, Q117, Q118, Q119, Q120, Q121, Q122, Q123, Option.map_some, Option.map_none, -Q78]
theorem far4 {H : List AO} {rid ver : Nat} {l : List UInt8} {c : Nat} (hrow : H[rid]? = some (.row 5 1 ver (l.map u8v) 0)) (hb : H.all (AO.below H.length) = true) (hl : l.length ≤ 90000000) (hv : Utf8.valid (c : Int) = true) (h3 : ¬ c < 65536) (h4 : c ≤ 1114111) :
    callW F 95 [.own 1 rid ver 0 l.length, .v (.int .i32 (c : Int))] H = some (.own 1 rid (ver + 1) 0 (l ++ encL c).length, H.set rid (.row 5 1 (ver + 1) ((l ++ encL c).map u8v) 0)) := by
  have hlt : rid < H.length := (List.getElem?_eq_some_iff.1 hrow).1
  have he : encL c = [UInt8.ofNat (240 + c / 262144), UInt8.ofNat (128 + c / 4096 % 64), UInt8.ofNat (128 + c / 64 % 64), UInt8.ofNat (128 + c % 64)] := enc4 hv (by omega) (by omega) h3
  have w32 : IntKind.u32.wrap (c : Int) = (c : Int) := by
    simp [IntKind.wrap, IntKind.bits, IntKind.signed]; omega
  have f1 : Q78 .leq (.v (.int .u32 (c : Int))) (.v (.int .u32 2047)) = some (.v (.bool false)) := by
    show some (AV.v (.bool (decide ((c : Int) ≤ 2047)))) = _
    rw [decide_eq_false (by omega)]
  have f2 : Q78 .lss (.v (.int .u32 (c : Int))) (.v (.int .u32 55296)) = some (.v (.bool false)) := by
    show some (AV.v (.bool (decide ((c : Int) < 55296)))) = _
    rw [decide_eq_false (by omega)]
  have f3 : Q78 .lss (.v (.int .u32 57343)) (.v (.int .u32 (c : Int))) = some (.v (.bool true)) := by
    show some (AV.v (.bool (decide ((57343 : Int) < (c : Int))))) = _
    rw [decide_eq_true (by omega)]
  have f4 : Q78 .leq (.v (.int .u32 (c : Int))) (.v (.int .u32 65535)) = some (.v (.bool false)) := by
    show some (AV.v (.bool (decide ((c : Int) ≤ 65535)))) = _
    rw [decide_eq_false (by omega)]
  have f5 : Q78 .gtr (.v (.int .u32 (c : Int))) (.v (.int .u32 65535)) = some (.v (.bool true)) := by
    show some (AV.v (.bool (decide ((c : Int) > 65535)))) = _
    rw [decide_eq_true (by omega)]
  have f6 : Q78 .leq (.v (.int .u32 (c : Int))) (.v (.int .u32 1114111)) = some (.v (.bool true)) := by
    show some (AV.v (.bool (decide ((c : Int) ≤ 1114111)))) = _
    rw [decide_eq_true (by omega)]
  have s6 : evShf false (.v (.int .i32 (c : Int))) (.v (.int .u64 6)) = some (.v (.int .i32 ((c / 64 : Nat) : Int))) := shr_nat c 6 (by decide)
  have s12 : evShf false (.v (.int .i32 (c : Int))) (.v (.int .u64 12)) = some (.v (.int .i32 ((c / 4096 : Nat) : Int))) := shr_nat c 12 (by decide)
  have s18 : evShf false (.v (.int .i32 (c : Int))) (.v (.int .u64 18)) = some (.v (.int .i32 ((c / 262144 : Nat) : Int))) := shr_nat c 18 (by decide)
  have n0 : IntKind.u8.wrap ((c / 262144 : Nat) : Int) = ((c / 262144 : Nat) : Int) := by rw [u8_nat, Nat.mod_eq_of_lt (by omega)]
  have n1 := u8_nat (c / 4096)
  have n2 := u8_nat (c / 64)
  have m2 := u8_nat c
  have o0 := fo240 (x := c / 262144) (by omega)
  have a0 := fa63 (x := c / 4096 % 256) (by omega)
  have o1 := fo128 (x := c / 4096 % 256 % 64) (by omega)
  have a1 := fa63 (x := c / 64 % 256) (by omega)
  have o2 := fo128 (x := c / 64 % 256 % 64) (by omega)
  have a2 := fa63 (x := c % 256) (by omega)
  have o3 := fo128 (x := c % 256 % 64) (by omega)
  have ap := radd hrow (ys := encL c) (by rw [he]; simp) (by rw [he]; simp only [List.length_cons, List.length_nil]; omega) true true
  rw [← List.length_append] at ap
  have hm : (encL c).map u8v = [.v (.int .u8 ((240 + c / 262144 : Nat) : Int)), .v (.int .u8 ((128 + c / 4096 % 256 % 64 : Nat) : Int)), .v (.int .u8 ((128 + c / 64 % 256 % 64 : Nat) : Int)), .v (.int .u8 ((128 + c % 256 % 64 : Nat) : Int))] := by
    rw [he, u8n (by omega), u8n (by omega), u8n (by omega), u8n (by omega), show c % 256 % 64 = c % 64 by omega, show c / 64 % 256 % 64 = c / 64 % 64 by omega, show c / 4096 % 256 % 64 = c / 4096 % 64 by omega]; rfl
  rw [hm] at ap
  generalize l ++ encL c = L at ap ⊢
  refine callW_code (c := c95) rfl rfl 0 ?_
  have lvv : leave H.length c95 (some (.ret, [.own 1 rid ver 0 l.length, .v (.int .i32 (c : Int)), .own 1 rid (ver + 1) 0 L.length, .v (.int .u32 (c : Int)), .v (.bool false), .v (.bool false), .v (.bool true)], H.set rid (.row 5 1 (ver + 1) (L.map u8v) 0))) = _ := row_leave (c := c95) (i := 2) hlt hb rfl rfl
  rw [← lvv]
  exact congrArg (leave H.length c95) (run95_4 w32 f1 f2 f3 f4 f5 f6 s18 n0 o0 s12 n1 a0 o1 s6 n2 a1 o2 m2 a2 o3 ap)
theorem valid_at {c : Nat} (hv : Utf8.valid (c : Int) = true) : c < 55296 ∨ (57343 < c ∧ c ≤ 1114111) := by
  simp only [Utf8.valid, Bool.or_eq_true, Bool.and_eq_true, decide_eq_true_eq] at hv
  omega
theorem far_ok {H : List AO} {rid ver : Nat} {l : List UInt8} {c : Nat} (hrow : H[rid]? = some (.row 5 1 ver (l.map u8v) 0)) (hb : H.all (AO.below H.length) = true) (hl : l.length ≤ 90000000) (hv : Utf8.valid (c : Int) = true) (h1 : ¬ c < 128) :
    callW F 95 [.own 1 rid ver 0 l.length, .v (.int .i32 (c : Int))] H = some (.own 1 rid (ver + 1) 0 (l ++ encL c).length, H.set rid (.row 5 1 (ver + 1) ((l ++ encL c).map u8v) 0)) := by
  have h := valid_at hv
  by_cases h2 : c < 2048
  · exact far2 hrow hb hl hv h1 h2
  · by_cases h3 : c < 65536
    · exact far3 hrow hb hl hv h2 h3 (by omega)
    · exact far4 hrow hb hl hv h3 (by omega)
theorem run90_1 {call : CallF} {K : Nat} {H H' : List AO} {O O' : AV} {c d e : Int} (w32 : IntKind.u32.wrap c = d) (f1 : Q78 .leq (.v (.int .u32 d)) (.v (.int .u32 127)) = some (.v (.bool true))) (m1 : IntKind.u8.wrap c = e)
    (ap : evAppend H 5 1 1 O (.slc 1 true true [.v (.int .u8 e)]) = some (O', H')) :
    exec call K c90.body [O, .v (.int .i32 c), .v undef, .v undef] H = some (.ret, [O, .v (.int .i32 c), O', .v (.bool true)], H') := by
  have b1 : ∀ (h : List AO) (a : Int), bs1 h 1 (some (.v (.int .u8 a))) = some (.slc 1 true true [.v (.int .u8 a)], h) := fun _ _ => rfl
  have sn : ∀ (h : List AO) (k : IntKind) (x : Int), (AV.v (.int k x)).snap1 h = some (.v (.int k x)) := fun _ _ _ => rfl
  simp only [c90, c90_0, c90_1, c90_2, e_conv, cvK_int, w32, f1, m1, sn, b1, Q104, e_append, ap, Q0, Q1, Q2, Q3, Q4, Q5, Q6, Q7, Q8, Q9, Q10, Q11, Q12, Q13, Q14, Q15, Q16, Q17, Q18, Q19, Q20, Q21, Q22, Q23, Q24, Q25, Q26, Q27, Q28, Q29, Q30, Q31, Q32, Q33, Q35, Q36, Q37, Q38, Q39, Q40, Q41, Q42, Q43, Q44, Q45, Q46, Q47, Q48, Q49, Q50, Q51, Q52, Q53, Q54, Q55, Q56, Q57, Q58, Q59, Q60, Q61, Q62, Q63, Q64, Q65, Q66, Q67, Q68, Q69, Q70, Q71, Q72, Q73, Q99, Q100, Q101, Q102, Q103, Q74, Q75, Q77, Q78, Q79, Q80, Q81, Q82, Q83, Q84, clr, List.length_nil, List.length_cons, List.getElem?_cons_zero, List.getElem?_cons_succ, Nat.reduceAdd, Nat.zero_add, Nat.add_zero, Nat.reduceLeDiff, Nat.reduceSub, ↓reduceIte, List.drop_succ_cons, List.drop_zero, List.take_succ_cons, List.take_zero, Bool.false_eq_true, List.nil_append, List.cons_append, Bool.not_true, Bool.not_false, cond_true, cond_false, bne, Q85, Q86, Q87, Q88, Q89, Q90, Q91, Q92, Q93, Q94, Q95, Q96, Q97, Q98, Q110, Q111, Q116, Q117, Q118, Q119, Q120, Q121, Q122, Q123, Option.map_some, Option.map_none, -Q78]
theorem run90_2 {call : CallF} {K : Nat} {H H' : List AO} {O O' : AV} {c d : Int} (w32 : IntKind.u32.wrap c = d) (f1 : Q78 .leq (.v (.int .u32 d)) (.v (.int .u32 127)) = some (.v (.bool false)))
    (hc : call 95 [O, .v (.int .i32 c)] H = some (O', H')) :
    exec call K c90.body [O, .v (.int .i32 c), .v undef, .v undef] H = some (.ret, [O, .v (.int .i32 c), O', .v (.bool false)], H') := by
  simp only [c90, c90_0, c90_1, c90_3, e_conv, cvK_int, w32, f1, hc, e_callh, List.map_cons, List.map_nil, Q0, Q1, Q2, Q3, Q4, Q5, Q6, Q7, Q8, Q9, Q10, Q11, Q12, Q13, Q14, Q15, Q16, Q17, Q18, Q19, Q20, Q21, Q22, Q23, Q24, Q25, Q26, Q27, Q28, Q29, Q30, Q31, Q32, Q33, Q35, Q36, Q37, Q38, Q39, Q40, Q41, Q42, Q43, Q44, Q45, Q46, Q47, Q48, Q49, Q50, Q51, Q52, Q53, Q54, Q55, Q56, Q57, Q58, Q59, Q60, Q61, Q62, Q63, Q64, Q65, Q66, Q67, Q68, Q69, Q70, Q71, Q72, Q73, Q99, Q100, Q101, Q102, Q103, Q74, Q75, Q77, Q78, Q79, Q80, Q81, Q82, Q83, Q84, clr, List.length_nil, List.length_cons, List.getElem?_cons_zero, List.getElem?_cons_succ, Nat.reduceAdd, Nat.zero_add, Nat.add_zero, Nat.reduceLeDiff, Nat.reduceSub, ↓reduceIte, List.drop_succ_cons, List.drop_zero, List.take_succ_cons, List.take_zero, Bool.false_eq_true, List.nil_append, List.cons_append, Bool.not_true, Bool.not_false, cond_true, cond_false, bne, Q85, Q86, Q87, Q88, Q89, Q90, Q91, Q92, Q93, Q94, Q95, Q96, Q97, Q98, Q110, Q111, Q116, Q117, Q118, Q119, Q120, Q121, Q122, Q123, Option.map_some, Option.map_none, -Q78]
theorem arune_ok {H : List AO} {rid ver : Nat} {l : List UInt8} {c : Nat} (hrow : H[rid]? = some (.row 5 1 ver (l.map u8v) 0)) (hb : H.all (AO.below H.length) = true) (hl : l.length ≤ 90000000) (hv : Utf8.valid (c : Int) = true) :
    callW F 90 [.own 1 rid ver 0 l.length, .v (.int .i32 (c : Int))] H = some (.own 1 rid (ver + 1) 0 (l ++ encL c).length, H.set rid (.row 5 1 (ver + 1) ((l ++ encL c).map u8v) 0)) := by
  have hlt : rid < H.length := (List.getElem?_eq_some_iff.1 hrow).1
  have hva := valid_at hv
  have w32 : IntKind.u32.wrap (c : Int) = (c : Int) := by
    simp [IntKind.wrap, IntKind.bits, IntKind.signed]; omega
  refine callW_code (c := c90) rfl rfl 0 ?_
  by_cases h1 : c < 128
  · have he : encL c = [UInt8.ofNat c] := enc1 hv h1
    have f1 : Q78 .leq (.v (.int .u32 (c : Int))) (.v (.int .u32 127)) = some (.v (.bool true)) := by
      show some (AV.v (.bool (decide ((c : Int) ≤ 127)))) = _
      rw [decide_eq_true (by omega)]
    have m1 : IntKind.u8.wrap (c : Int) = (c : Int) := by rw [u8_nat, Nat.mod_eq_of_lt (by omega)]
    have ap := radd hrow (ys := encL c) (by rw [he]; simp) (by rw [he]; simp only [List.length_cons, List.length_nil]; omega) true true
    rw [← List.length_append] at ap
    have hm : (encL c).map u8v = [.v (.int .u8 (c : Int))] := by rw [he, u8n (by omega)]; rfl
    rw [hm] at ap
    generalize l ++ encL c = L at ap ⊢
    have lvv : leave H.length c90 (some (.ret, [.own 1 rid ver 0 l.length, .v (.int .i32 (c : Int)), .own 1 rid (ver + 1) 0 L.length, .v (.bool true)], H.set rid (.row 5 1 (ver + 1) (L.map u8v) 0))) = _ := row_leave (c := c90) (i := 2) hlt hb rfl rfl
    rw [← lvv]
    exact congrArg (leave H.length c90) (run90_1 w32 f1 m1 ap)
  · have f1 : Q78 .leq (.v (.int .u32 (c : Int))) (.v (.int .u32 127)) = some (.v (.bool false)) := by
      show some (AV.v (.bool (decide ((c : Int) ≤ 127)))) = _
      rw [decide_eq_false (by omega)]
    have hc := far_ok hrow hb hl hv h1
    generalize l ++ encL c = L at hc ⊢
    have lvv : leave H.length c90 (some (.ret, [.own 1 rid ver 0 l.length, .v (.int .i32 (c : Int)), .own 1 rid (ver + 1) 0 L.length, .v (.bool false)], H.set rid (.row 5 1 (ver + 1) (L.map u8v) 0))) = _ := row_leave (c := c90) (i := 2) hlt hb rfl rfl
    rw [← lvv]
    exact congrArg (leave H.length c90) (run90_2 w32 f1 hc)
theorem run80 {call : CallF} {K b n n' : Nat} {H H1 H2 H3 : List AO} {O O' : AV} {c k : Int} (hc : call 77 [.ptr b 0] H = some (.tup [], H1)) (l1 : Q76 H1 false 1 (.ptr b 1) = some O) (n1 : evLen H1 .slice O = some n)
    (ha : call 90 [O, .v (.int .i32 c)] H1 = some (O', H2)) (st : Q113 H2 1 (.ptr b 1) O' = some H3) (l3 : Q76 H3 false 1 (.ptr b 1) = some O') (n3 : evLen H3 .slice O' = some n')
    (sb : Q78 .sub (.v (.int .i64 (n' : Int))) (.v (.int .i64 (n : Int))) = some (.v (.int .i64 k))) :
    exec call K c80.body [.ptr b 0, .v (.int .i32 c), .v undef, .v undef, .v undef] H = some (.ret, [.ptr b 0, .v (.int .i32 c), .v (.int .i64 k), .v .nilIface, .v (.int .i64 (n : Int))], H3) := by
  simp only [c80, c80_0, c80_1, c80_2, c80_3, c80_4, g_nilI, hc, e_callh, List.map_cons, List.map_nil, l1, n1, ha, st, l3, n3, sb, Q0, Q1, Q2, Q3, Q4, Q5, Q6, Q7, Q8, Q9, Q10, Q11, Q12, Q13, Q14, Q15, Q16, Q17, Q18, Q19, Q20, Q21, Q22, Q23, Q24, Q25, Q26, Q27, Q28, Q29, Q30, Q31, Q32, Q33, Q35, Q36, Q37, Q38, Q39, Q40, Q41, Q42, Q43, Q44, Q45, Q46, Q47, Q48, Q49, Q50, Q51, Q52, Q53, Q54, Q55, Q56, Q57, Q58, Q59, Q60, Q61, Q62, Q63, Q64, Q65, Q66, Q67, Q68, Q69, Q70, Q71, Q72, Q73, Q99, Q100, Q101, Q102, Q103, Q74, Q75, Q77, Q78, Q79, Q80, Q81, Q82, Q83, Q84, clr, List.length_nil, List.length_cons, List.getElem?_cons_zero, List.getElem?_cons_succ, Nat.reduceAdd, Nat.zero_add, Nat.add_zero, Nat.reduceLeDiff, Nat.reduceSub, ↓reduceIte, List.drop_succ_cons, List.drop_zero, List.take_succ_cons, List.take_zero, Bool.false_eq_true, List.nil_append, List.cons_append, Bool.not_true, Bool.not_false, cond_true, cond_false, bne, Q85, Q86, Q87, Q88, Q89, Q90, Q91, Q92, Q93, Q94, Q95, Q96, Q97, Q98, Q110, Q111, Q116, Q117, Q118, Q119, Q120, Q121, Q122, Q123, Option.map_some, Option.map_none, -Q78]
theorem wrune_ok {H : List AO} {b rid : Nat} {l : List UInt8} (h : Bd H b rid l) (hb : H.all (AO.below H.length) = true) (c : Nat) (hv : Utf8.valid (c : Int) = true) (hl : l.length ≤ 90000000) :
    ∃ r H', callW F 80 [.ptr b 0, .v (.int .i32 (c : Int))] H = some (r, H') ∧ Bd H' b rid (l ++ encL c) ∧ Rst b rid H H' ∧ H'.all (AO.below H'.length) = true := by
  obtain ⟨H1, ver, hc, hB1, hr1⟩ := h.copy
  have hb1 := hr1.below hb hB1
  have ha := arune_ok hB1.row hb1 hl hv
  have hne := hB1.ne
  have hlr : rid < H1.length := (List.getElem?_eq_some_iff.1 hB1.row).1
  have hlb : b < H1.length := (List.getElem?_eq_some_iff.1 hB1.box).1
  generalize l ++ encL c = L at ha ⊢
  have bx2 : (H1.set rid (.row 5 1 (ver + 1) (L.map u8v) 0))[b]? = some (.box 61 [.ptr b 0, .own 1 rid ver 0 l.length]) := by
    rw [List.getElem?_set_ne (Ne.symm hne)]; exact hB1.box
  have st := bx_st bx2 (x := .own 1 rid (ver + 1) 0 L.length) (xs := [.own 1 rid (ver + 1) 0 L.length]) (n := 1) (o := 1) rfl rfl (by simp)
  have hB3 : BdP (.ptr b 0) ((H1.set rid (.row 5 1 (ver + 1) (L.map u8v) 0)).set b (.box 61 (Q112 [.ptr b 0, .own 1 rid ver 0 l.length] 1 [.own 1 rid (ver + 1) 0 L.length]))) b rid (ver + 1) L := by
    refine ⟨?_, ?_⟩
    · simp [hlb, Q112]
    · rw [List.getElem?_set_ne hne]
      simp [hlr]
  have hr : Rst b rid H _ := hr1.trans ((set_rst (H := H1) (x := .row 5 1 (ver + 1) (L.map u8v) 0) (.inr rfl)).trans (set_rst (x := .box 61 (Q112 [.ptr b 0, .own 1 rid ver 0 l.length] 1 [.own 1 rid (ver + 1) 0 L.length])) (.inl rfl)))
  have hb3 := hr.below hb hB3
  generalize ((H1.set rid (.row 5 1 (ver + 1) (L.map u8v) 0)).set b (.box 61 (Q112 [.ptr b 0, .own 1 rid ver 0 l.length] 1 [.own 1 rid (ver + 1) 0 L.length]))) = H3 at st hB3 hr hb3
  have l1 : Q76 H1 false 1 (.ptr b 1) = some (.own 1 rid ver 0 l.length) := by rw [bx_ld hB1.box]; rfl
  have l3 : Q76 H3 false 1 (.ptr b 1) = some (.own 1 rid (ver + 1) 0 L.length) := by rw [bx_ld hB3.box]; rfl
  have n1 : evLen H1 .slice (.own 1 rid ver 0 l.length) = some l.length := by simp [evLen, rowAt, hB1.row]
  have n3 : evLen H3 .slice (.own 1 rid (ver + 1) 0 L.length) = some L.length := by simp [evLen, rowAt, hB3.row]
  have sb : Q78 .sub (.v (.int .i64 (L.length : Int))) (.v (.int .i64 (l.length : Int))) = some (.v (.int .i64 (IntKind.i64.wrap ((L.length : Int) - l.length)))) := rfl
  refine ⟨.tup [.v (.int .i64 (IntKind.i64.wrap ((L.length : Int) - l.length))), .v .nilIface], H3, callW_code (c := c80) rfl rfl 0 ?_, ⟨_, _, .inr rfl, hB3⟩, hr, hb3⟩
  generalize IntKind.i64.wrap ((L.length : Int) - l.length) = k at sb ⊢
  have lvv : leave H.length c80 (some (.ret, [.ptr b 0, .v (.int .i32 (c : Int)), .v (.int .i64 k), .v .nilIface, .v (.int .i64 (l.length : Int))], H3)) = some (.tup [.v (.int .i64 k), .v .nilIface], H3) := leave2 hr.1 (by rw [← hr.1]; exact hb3) (a := .var 2) (a' := .var 3) rfl rfl rfl
  rw [← lvv]
  exact congrArg (leave H.length c80) (run80 hc l1 n1 ha st l3 n3 sb)
end Go.AE.YtgcbaefclkfnoaaDoor
end

/-! An atom's text, quoted: the program's. -/
section
set_option linter.unusedVariables false
set_option linter.unusedSimpArgs false
namespace Go.AE.YtgcbaefclkfnoaaDoor
open Go Go.AE Go.Proofs.YtgcbaefclkfnoaaDoor

def V69 (x8 : AV) (x7 : AV) : List AV := [.junk, .junk, .ptr 0 0, .junk, .junk, .junk, .it 2, x7, x8, .junk, .junk, .junk, .junk, .junk]
def K69 : List Bool := [false, false, true, false, false, false, true, false, false, false, false, false, false, false]
theorem blk_out2 {vs : List AV} {h : List AO} : blk 2 (some (.exit 1, vs, h)) = some (.exit 1, vs, h) := rfl
theorem step69 {call : CallF} {K : Nat} {H H0 HR : List AO} {p c : Int} {SH : ByteArray} (nx : evNext H (.it 2) = some (.tup [.v (.bool true), .v (.int .i64 p), .v (.int .i32 c)], H0)) (wz : IntKind.i64.wrap c = c)
    (k1 : (c == 39 || c == 92) = true → ∃ H1 r r', call 66 [.ptr 0 0, .v (.int .u8 92)] H0 = some (r, H1) ∧ call 80 [.ptr 0 0, .v (.int .i32 c)] H1 = some (r', HR))
    (k2 : (c == 39 || c == 92) = false → (c == 10) = true → ∃ r, call 67 [.ptr 0 0, .v (.string ⟨#[92, 110]⟩)] H0 = some (r, HR))
    (k3 : (c == 39 || c == 92) = false → (c == 10) = false → (c == 9) = true → ∃ r, call 67 [.ptr 0 0, .v (.string ⟨#[92, 116]⟩)] H0 = some (r, HR))
    (k4 : (c == 39 || c == 92) = false → (c == 10) = false → (c == 9) = false → decide (c < 32) = true → ∃ H1 H2 r r' r'', call 67 [.ptr 0 0, .v (.string ⟨#[92, 120]⟩)] H0 = some (r, H1) ∧ call 81 [.v (.int .i64 c), .v (.int .i64 16)] [] = some (.v (.string SH), []) ∧ call 67 [.ptr 0 0, .v (.string SH)] H1 = some (r', H2) ∧ call 66 [.ptr 0 0, .v (.int .u8 92)] H2 = some (r'', HR))
    (k5 : (c == 39 || c == 92) = false → (c == 10) = false → (c == 9) = false → decide (c < 32) = false → ∃ r, call 80 [.ptr 0 0, .v (.int .i32 c)] H0 = some (r, HR)) :
    ∃ v, exec call K c69_24 (V69 .junk .junk) H = some (.normal, v, HR) ∧ clr K69 v = V69 .junk .junk := by
  have sn : ∀ (h : List AO) (k : IntKind) (x : Int), (AV.v (.int k x)).snap1 h = some (.v (.int k x)) := fun _ _ _ => rfl
  have t1 := AV.tup [.v (.bool true), .v (.int .i64 p), .v (.int .i32 c)]
  cases q1 : (c == 39 || c == 92) with
  | true =>
    obtain ⟨H1, r, r', a1, a2⟩ := k1 q1
    refine ⟨[.junk, .junk, .ptr 0 0, .v (.int .i32 c), .junk, .junk, .it 2, .tup [.v (.bool true), .v (.int .i64 p), .v (.int .i32 c)], .v (.bool true), .v (.int .i32 c), .junk, .v (.bool true), .junk, .junk], ?_, rfl⟩
    cases q2' : (c == 39) with
    | true => simp only [V69, c69_24, c69_8, c69_9, c69_10, c69_11, c69_13, c69_14, e_next, nx, ex_2, q2', a1, a2, e_callh, List.map_cons, List.map_nil, sn, Q0, Q1, Q2, Q3, Q4, Q5, Q6, Q7, Q8, Q9, Q10, Q11, Q12, Q13, Q14, Q15, Q16, Q17, Q18, Q19, Q20, Q21, Q22, Q23, Q24, Q25, Q26, Q27, Q28, Q29, Q30, Q31, Q32, Q33, Q35, Q36, Q37, Q38, Q39, Q40, Q41, Q42, Q43, Q44, Q45, Q46, Q47, Q48, Q49, Q50, Q51, Q52, Q53, Q54, Q55, Q56, Q57, Q58, Q59, Q60, Q61, Q62, Q63, Q64, Q65, Q66, Q67, Q68, Q69, Q70, Q71, Q72, Q73, Q99, Q100, Q101, Q102, Q103, Q74, Q75, Q77, Q78, Q79, Q80, Q81, Q82, Q83, Q84, clr, List.length_nil, List.length_cons, List.getElem?_cons_zero, List.getElem?_cons_succ, Nat.reduceAdd, Nat.zero_add, Nat.add_zero, Nat.reduceLeDiff, Nat.reduceSub, ↓reduceIte, List.drop_succ_cons, List.drop_zero, List.take_succ_cons, List.take_zero, Bool.false_eq_true, List.nil_append, List.cons_append, Bool.not_true, Bool.not_false, cond_true, cond_false, bne, Q85, Q86, Q87, Q88, Q89, Q90, Q91, Q92, Q93, Q94, Q95, Q96, Q97, Q98, Q110, Q111, Q116, Q117, Q118, Q119, Q120, Q121, Q122, Q123, Option.map_some, Option.map_none, Q34]
    | false =>
      rw [q2', Bool.false_or] at q1
      simp only [V69, c69_24, c69_8, c69_9, c69_10, c69_11, c69_12, c69_13, c69_14, e_next, nx, ex_2, q2', q1, a1, a2, e_callh, List.map_cons, List.map_nil, sn, Q0, Q1, Q2, Q3, Q4, Q5, Q6, Q7, Q8, Q9, Q10, Q11, Q12, Q13, Q14, Q15, Q16, Q17, Q18, Q19, Q20, Q21, Q22, Q23, Q24, Q25, Q26, Q27, Q28, Q29, Q30, Q31, Q32, Q33, Q35, Q36, Q37, Q38, Q39, Q40, Q41, Q42, Q43, Q44, Q45, Q46, Q47, Q48, Q49, Q50, Q51, Q52, Q53, Q54, Q55, Q56, Q57, Q58, Q59, Q60, Q61, Q62, Q63, Q64, Q65, Q66, Q67, Q68, Q69, Q70, Q71, Q72, Q73, Q99, Q100, Q101, Q102, Q103, Q74, Q75, Q77, Q78, Q79, Q80, Q81, Q82, Q83, Q84, clr, List.length_nil, List.length_cons, List.getElem?_cons_zero, List.getElem?_cons_succ, Nat.reduceAdd, Nat.zero_add, Nat.add_zero, Nat.reduceLeDiff, Nat.reduceSub, ↓reduceIte, List.drop_succ_cons, List.drop_zero, List.take_succ_cons, List.take_zero, Bool.false_eq_true, List.nil_append, List.cons_append, Bool.not_true, Bool.not_false, cond_true, cond_false, bne, Q85, Q86, Q87, Q88, Q89, Q90, Q91, Q92, Q93, Q94, Q95, Q96, Q97, Q98, Q110, Q111, Q116, Q117, Q118, Q119, Q120, Q121, Q122, Q123, Option.map_some, Option.map_none, Q34]
  | false =>
    have q1a : (c == 39) = false := by simp only [Bool.or_eq_false_iff] at q1; exact q1.1
    have q1b : (c == 92) = false := by simp only [Bool.or_eq_false_iff] at q1; exact q1.2
    cases q5 : (c == 10) with
    | true =>
      obtain ⟨r, a1⟩ := k2 q1 q5
      refine ⟨[.junk, .junk, .ptr 0 0, .v (.int .i32 c), .junk, .junk, .it 2, .tup [.v (.bool true), .v (.int .i64 p), .v (.int .i32 c)], .v (.bool true), .v (.int .i32 c), .junk, .v (.bool false), .v (.bool true), .junk], ?_, rfl⟩
      simp only [V69, c69_24, c69_8, c69_9, c69_10, c69_11, c69_12, c69_15, c69_16, e_next, nx, ex_2, q1a, q1b, q5, a1, e_callh, List.map_cons, List.map_nil, sn, Q0, Q1, Q2, Q3, Q4, Q5, Q6, Q7, Q8, Q9, Q10, Q11, Q12, Q13, Q14, Q15, Q16, Q17, Q18, Q19, Q20, Q21, Q22, Q23, Q24, Q25, Q26, Q27, Q28, Q29, Q30, Q31, Q32, Q33, Q35, Q36, Q37, Q38, Q39, Q40, Q41, Q42, Q43, Q44, Q45, Q46, Q47, Q48, Q49, Q50, Q51, Q52, Q53, Q54, Q55, Q56, Q57, Q58, Q59, Q60, Q61, Q62, Q63, Q64, Q65, Q66, Q67, Q68, Q69, Q70, Q71, Q72, Q73, Q99, Q100, Q101, Q102, Q103, Q74, Q75, Q77, Q78, Q79, Q80, Q81, Q82, Q83, Q84, clr, List.length_nil, List.length_cons, List.getElem?_cons_zero, List.getElem?_cons_succ, Nat.reduceAdd, Nat.zero_add, Nat.add_zero, Nat.reduceLeDiff, Nat.reduceSub, ↓reduceIte, List.drop_succ_cons, List.drop_zero, List.take_succ_cons, List.take_zero, Bool.false_eq_true, List.nil_append, List.cons_append, Bool.not_true, Bool.not_false, cond_true, cond_false, bne, Q85, Q86, Q87, Q88, Q89, Q90, Q91, Q92, Q93, Q94, Q95, Q96, Q97, Q98, Q110, Q111, Q116, Q117, Q118, Q119, Q120, Q121, Q122, Q123, Option.map_some, Option.map_none, Q34]
    | false =>
      cases q6 : (c == 9) with
      | true =>
        obtain ⟨r, a1⟩ := k3 q1 q5 q6
        refine ⟨[.junk, .junk, .ptr 0 0, .v (.int .i32 c), .junk, .junk, .it 2, .tup [.v (.bool true), .v (.int .i64 p), .v (.int .i32 c)], .v (.bool true), .v (.int .i32 c), .junk, .v (.bool false), .v (.bool false), .v (.bool true)], ?_, rfl⟩
        simp only [V69, c69_24, c69_8, c69_9, c69_10, c69_11, c69_12, c69_15, c69_17, c69_18, e_next, nx, ex_2, q1a, q1b, q5, q6, a1, e_callh, List.map_cons, List.map_nil, sn, Q0, Q1, Q2, Q3, Q4, Q5, Q6, Q7, Q8, Q9, Q10, Q11, Q12, Q13, Q14, Q15, Q16, Q17, Q18, Q19, Q20, Q21, Q22, Q23, Q24, Q25, Q26, Q27, Q28, Q29, Q30, Q31, Q32, Q33, Q35, Q36, Q37, Q38, Q39, Q40, Q41, Q42, Q43, Q44, Q45, Q46, Q47, Q48, Q49, Q50, Q51, Q52, Q53, Q54, Q55, Q56, Q57, Q58, Q59, Q60, Q61, Q62, Q63, Q64, Q65, Q66, Q67, Q68, Q69, Q70, Q71, Q72, Q73, Q99, Q100, Q101, Q102, Q103, Q74, Q75, Q77, Q78, Q79, Q80, Q81, Q82, Q83, Q84, clr, List.length_nil, List.length_cons, List.getElem?_cons_zero, List.getElem?_cons_succ, Nat.reduceAdd, Nat.zero_add, Nat.add_zero, Nat.reduceLeDiff, Nat.reduceSub, ↓reduceIte, List.drop_succ_cons, List.drop_zero, List.take_succ_cons, List.take_zero, Bool.false_eq_true, List.nil_append, List.cons_append, Bool.not_true, Bool.not_false, cond_true, cond_false, bne, Q85, Q86, Q87, Q88, Q89, Q90, Q91, Q92, Q93, Q94, Q95, Q96, Q97, Q98, Q110, Q111, Q116, Q117, Q118, Q119, Q120, Q121, Q122, Q123, Option.map_some, Option.map_none, Q34]
      | false =>
        cases q7 : decide (c < 32) with
        | true =>
          obtain ⟨H1, H2, r, r', r'', a1, a2, a3, a4⟩ := k4 q1 q5 q6 q7
          refine ⟨[.junk, .junk, .ptr 0 0, .v (.int .i32 c), .junk, .junk, .it 2, .tup [.v (.bool true), .v (.int .i64 p), .v (.int .i32 c)], .v (.bool true), .v (.int .i32 c), .v (.bool true), .v (.bool false), .v (.bool false), .v (.bool false)], ?_, rfl⟩
          simp only [V69, c69_24, c69_8, c69_9, c69_10, c69_11, c69_12, c69_15, c69_17, c69_19, c69_20, c69_21, c69_22, e_next, nx, ex_2, q1a, q1b, q5, q6, q7, a1, a2, a3, a4, e_conv, cvK_int, wz, e_callh, List.map_cons, List.map_nil, sn, blk_out2, Q0, Q1, Q2, Q3, Q4, Q5, Q6, Q7, Q8, Q9, Q10, Q11, Q12, Q13, Q14, Q15, Q16, Q17, Q18, Q19, Q20, Q21, Q22, Q23, Q24, Q25, Q26, Q27, Q28, Q29, Q30, Q31, Q32, Q33, Q35, Q36, Q37, Q38, Q39, Q40, Q41, Q42, Q43, Q44, Q45, Q46, Q47, Q48, Q49, Q50, Q51, Q52, Q53, Q54, Q55, Q56, Q57, Q58, Q59, Q60, Q61, Q62, Q63, Q64, Q65, Q66, Q67, Q68, Q69, Q70, Q71, Q72, Q73, Q99, Q100, Q101, Q102, Q103, Q74, Q75, Q77, Q78, Q79, Q80, Q81, Q82, Q83, Q84, clr, List.length_nil, List.length_cons, List.getElem?_cons_zero, List.getElem?_cons_succ, Nat.reduceAdd, Nat.zero_add, Nat.add_zero, Nat.reduceLeDiff, Nat.reduceSub, ↓reduceIte, List.drop_succ_cons, List.drop_zero, List.take_succ_cons, List.take_zero, Bool.false_eq_true, List.nil_append, List.cons_append, Bool.not_true, Bool.not_false, cond_true, cond_false, bne, Q85, Q86, Q87, Q88, Q89, Q90, Q91, Q92, Q93, Q94, Q95, Q96, Q97, Q98, Q110, Q111, Q116, Q117, Q118, Q119, Q120, Q121, Q122, Q123, Option.map_some, Option.map_none, Q34]
        | false =>
          obtain ⟨r, a1⟩ := k5 q1 q5 q6 q7
          refine ⟨[.junk, .junk, .ptr 0 0, .v (.int .i32 c), .junk, .junk, .it 2, .tup [.v (.bool true), .v (.int .i64 p), .v (.int .i32 c)], .v (.bool true), .v (.int .i32 c), .v (.bool false), .v (.bool false), .v (.bool false), .v (.bool false)], ?_, rfl⟩
          simp only [V69, c69_24, c69_8, c69_9, c69_10, c69_11, c69_12, c69_15, c69_17, c69_19, c69_23, e_next, nx, ex_2, q1a, q1b, q5, q6, q7, a1, e_callh, List.map_cons, List.map_nil, sn, Q0, Q1, Q2, Q3, Q4, Q5, Q6, Q7, Q8, Q9, Q10, Q11, Q12, Q13, Q14, Q15, Q16, Q17, Q18, Q19, Q20, Q21, Q22, Q23, Q24, Q25, Q26, Q27, Q28, Q29, Q30, Q31, Q32, Q33, Q35, Q36, Q37, Q38, Q39, Q40, Q41, Q42, Q43, Q44, Q45, Q46, Q47, Q48, Q49, Q50, Q51, Q52, Q53, Q54, Q55, Q56, Q57, Q58, Q59, Q60, Q61, Q62, Q63, Q64, Q65, Q66, Q67, Q68, Q69, Q70, Q71, Q72, Q73, Q99, Q100, Q101, Q102, Q103, Q74, Q75, Q77, Q78, Q79, Q80, Q81, Q82, Q83, Q84, clr, List.length_nil, List.length_cons, List.getElem?_cons_zero, List.getElem?_cons_succ, Nat.reduceAdd, Nat.zero_add, Nat.add_zero, Nat.reduceLeDiff, Nat.reduceSub, ↓reduceIte, List.drop_succ_cons, List.drop_zero, List.take_succ_cons, List.take_zero, Bool.false_eq_true, List.nil_append, List.cons_append, Bool.not_true, Bool.not_false, cond_true, cond_false, bne, Q85, Q86, Q87, Q88, Q89, Q90, Q91, Q92, Q93, Q94, Q95, Q96, Q97, Q98, Q110, Q111, Q116, Q117, Q118, Q119, Q120, Q121, Q122, Q123, Option.map_some, Option.map_none, Q34]
theorem dec_valid (s : ByteArray) (p : Nat) : Utf8.valid ((Utf8.decode s p).1 : Int) = true := by
  have h := Lib.decodeN_valid (s.size - p) (s.get! p).toNat (s.get! (p + 1)).toNat (s.get! (p + 2)).toNat (s.get! (p + 3)).toNat (s.get! p).toNat_lt
  rw [Lib.decode_at]
  generalize (Lib.decodeN (s.size - p) (s.get! p).toNat (s.get! (p + 1)).toNat (s.get! (p + 2)).toNat (s.get! (p + 3)).toNat).1 = c at h
  simp only [Utf8.valid, Bool.or_eq_true, Bool.and_eq_true, decide_eq_true_eq]
  omega
theorem exit69 {call : CallF} {K : Nat} {H : List AO} (nx : evNext H (.it 2) = some (.tup [.v (.bool false)], H)) : exec call K c69_24 (V69 .junk .junk) H = some (.exit 0, V69 (.v (.bool false)) (.tup [.v (.bool false)]), H) := by
  simp only [V69, c69_24, c69_8, e_next, nx, Q0, Q1, Q2, Q3, Q4, Q5, Q6, Q7, Q8, Q9, Q10, Q11, Q12, Q13, Q14, Q15, Q16, Q17, Q18, Q19, Q20, Q21, Q22, Q23, Q24, Q25, Q26, Q27, Q28, Q29, Q30, Q31, Q32, Q33, Q35, Q36, Q37, Q38, Q39, Q40, Q41, Q42, Q43, Q44, Q45, Q46, Q47, Q48, Q49, Q50, Q51, Q52, Q53, Q54, Q55, Q56, Q57, Q58, Q59, Q60, Q61, Q62, Q63, Q64, Q65, Q66, Q67, Q68, Q69, Q70, Q71, Q72, Q73, Q99, Q100, Q101, Q102, Q103, Q74, Q75, Q77, Q78, Q79, Q80, Q81, Q82, Q83, Q84, clr, List.length_nil, List.length_cons, List.getElem?_cons_zero, List.getElem?_cons_succ, Nat.reduceAdd, Nat.zero_add, Nat.add_zero, Nat.reduceLeDiff, Nat.reduceSub, ↓reduceIte, List.drop_succ_cons, List.drop_zero, List.take_succ_cons, List.take_zero, Bool.false_eq_true, List.nil_append, List.cons_append, Bool.not_true, Bool.not_false, cond_true, cond_false, bne, Q85, Q86, Q87, Q88, Q89, Q90, Q91, Q92, Q93, Q94, Q95, Q96, Q97, Q98, Q110, Q111, Q116, Q117, Q118, Q119, Q120, Q121, Q122, Q123, Option.map_some, Option.map_none, Q34]
theorem cwrite_loop (hfmt : ∀ c : Nat, c < 32 → callW F 81 [.v (.int .i64 (c : Int)), .v (.int .i64 16)] [] = some (.v (.string ⟨(hexL c).toArray⟩), [])) {s : ByteArray} (hs : s.size ≤ 255) (v : List AV) (H : List AO) (o : List UInt8) (ho : o.length ≤ 100) (hB : Bd H 0 1 o) (hi2 : H[2]? = some (.siter s 0)) (hb : H.all (AO.below H.length) = true) (hv : clr K69 v = V69 .junk .junk) :
    ∃ x8 x7 H', loopN (exec (callW F) (s.size + 1) c69_24) K69 (s.size + 1) v H = some (.exit 0, V69 x8 x7, H') ∧ Bd H' 0 1 (o ++ (runesOf s).flatMap escL) ∧ H'.all (AO.below H'.length) = true ∧ H'.length = H.length := by
  obtain ⟨e, v', h', g1, g2, g3⟩ := loop_rule0 (call := callW F) (K := s.size + 1) (b := c69_24) (keep := K69)
    (fun i v h => ∃ (p : Nat) (q : List UInt8), i ≤ p ∧ v = V69 .junk .junk ∧ Bd h 0 1 q ∧ h[2]? = some (.siter s p) ∧ h.all (AO.below h.length) = true ∧ h.length = H.length ∧ q.length ≤ 100 + 5 * i ∧ q ++ (rns s (s.size - i) p).flatMap escL = o ++ (runesOf s).flatMap escL)
    (fun e v h => e = .exit 0 ∧ Bd h 0 1 (o ++ (runesOf s).flatMap escL) ∧ h.all (AO.below h.length) = true ∧ h.length = H.length ∧ ∃ x8 x7, v = V69 x8 x7)
    s.size (m := s.size + 1) (v := v) (h := H) (by omega) ⟨0, o, Nat.le_refl _, hv, hB, hi2, hb, rfl, by omega, rfl⟩ (by
      rintro i v h hi ⟨p, q, hip, rfl, hBq, h2, hbb, hlen, hql, hR⟩
      by_cases hp : p < s.size
      · have hl2 : 2 < h.length := (List.getElem?_eq_some_iff.1 h2).1
        have nx : evNext h (.it 2) = some (.tup [.v (.bool true), .v (.int .i64 p), .v (.int .i32 (Utf8.decode s p).1)], h.set 2 (.siter s (p + (Utf8.decode s p).2))) := by
          simp only [evNext, h2, hp, if_true]
        have hw := width_pos s p
        have hil : i < s.size := by omega
        have e1 : s.size - i = (s.size - (i + 1)) + 1 := by omega
        rw [e1, rns_cons hp, List.flatMap_cons] at hR
        have hvd := dec_valid s p
        have hpp : i + 1 ≤ p + (Utf8.decode s p).2 := by omega
        generalize p + (Utf8.decode s p).2 = p' at hR nx hpp
        generalize (Utf8.decode s p).1 = d at hR nx hvd
        have hne1 : ¬ (2 = 0) := by decide
        have hne2 : ¬ (2 = 1) := by decide
        have h20 : (h.set 2 (.siter s p'))[2]? = some (.siter s p') := by simp [hl2]
        have hB0 : Bd (h.set 2 (.siter s p')) 0 1 q := by
          obtain ⟨pp, ver, hpp, hbx⟩ := hBq
          refine ⟨pp, ver, hpp, ?_, ?_⟩
          · rw [List.getElem?_set_ne (by decide)]; exact hbx.box
          · rw [List.getElem?_set_ne (by decide)]; exact hbx.row
        have l0 : (h.set 2 (.siter s p')).length = h.length := by simp
        have hb0 : (h.set 2 (.siter s p')).all (AO.below (h.set 2 (.siter s p')).length) = true := by
          rw [l0, List.all_eq_true]
          rw [List.all_eq_true] at hbb
          intro o ho
          rcases List.mem_or_eq_of_mem_set ho with h1 | rfl
          · exact hbb o h1
          · rfl
        generalize h.set 2 (.siter s p') = H0 at nx h20 hB0 l0 hb0
        have hel := escL_len d
        have hnl := encL_len d
        have hxl := hexL_len d
        have hxn : hexL d ≠ [] := by unfold hexL; split <;> simp
        have hE : escL d = escH ((d : Int) == 39 || (d : Int) == 92) ((d : Int) == 10) ((d : Int) == 9) (decide ((d : Int) < 32)) (encL d) (hexL d) := by unfold escL; exact Eq.refl _
        have wr := fun {A : List AO} {l : List UInt8} (x : Bd A 0 1 l) (y : A.all (AO.below A.length) = true) (z : l.length ≤ 90000000) => wrune_ok x y d hvd z
        have hf := fun (x : d < 32) => hfmt d x
        have wz : IntKind.i64.wrap (d : Int) = (d : Int) := by
          have := valid_at hvd
          rw [IntWalk.i64_in]; omega
        have d32 : decide ((d : Int) < 32) = true → d < 32 := fun e => by have := of_decide_eq_true e; omega
        clear hvd hfmt
        generalize escL d = Z at hE hR hel
        generalize encL d = E at hE wr hnl
        generalize hexL d = X at hE hf hxl hxn
        generalize (d : Int) = c at hE nx wr hf wz d32
        have fin : ∀ (HR : List AO) (Y : List UInt8), Z = Y → Bd HR 0 1 (q ++ Y) → Rst 0 1 H0 HR → HR.all (AO.below HR.length) = true → (∃ v, exec (callW F) (s.size + 1) c69_24 (V69 .junk .junk) h = some (.normal, v, HR) ∧ clr K69 v = V69 .junk .junk) →
            ∃ x v' h', exec (callW F) (s.size + 1) c69_24 (V69 .junk .junk) h = some (x, v', h') ∧ Aft s.size i K69 (fun i v h => ∃ (p : Nat) (q : List UInt8), i ≤ p ∧ v = V69 .junk .junk ∧ Bd h 0 1 q ∧ h[2]? = some (.siter s p) ∧ h.all (AO.below h.length) = true ∧ h.length = H.length ∧ q.length ≤ 100 + 5 * i ∧ q ++ (rns s (s.size - i) p).flatMap escL = o ++ (runesOf s).flatMap escL)
              (fun e v h => e = .exit 0 ∧ Bd h 0 1 (o ++ (runesOf s).flatMap escL) ∧ h.all (AO.below h.length) = true ∧ h.length = H.length ∧ ∃ x8 x7, v = V69 x8 x7) x v' h' := by
          rintro HR Y rfl b1 b2 b3 ⟨vv, e1, e2⟩
          refine ⟨.normal, vv, HR, e1, hil, p', q ++ Z, hpp, e2, b1, ?_, b3, ?_, ?_, ?_⟩
          · rw [b2.2 2 hne1 hne2]; exact h20
          · rw [b2.1, l0]; exact hlen
          · rw [List.length_append]; omega
          · rw [List.append_assoc]; exact hR
        have tf : ∀ {b : Bool}, b = true → b = false → False := fun e f => by rw [e] at f; cases f
        cases q1 : (c == 39 || c == 92) with
        | true =>
          obtain ⟨H1, c1, b1, r1, m1⟩ := wbyte_ok hB0 hb0 92 (by omega)
          obtain ⟨rr, HR, c2, b2, r2, m2⟩ := wr b1 m1 (by rw [List.length_append]; simp only [List.length_cons, List.length_nil]; omega)
          rw [List.append_assoc] at b2
          exact fin HR ([92] ++ E) (by rw [hE, q1]; rfl) b2 (r1.trans r2) m2 (step69 (SH := ⟨X.toArray⟩) nx wz (fun _ => ⟨H1, _, _, c1, c2⟩) (fun a => (tf q1 a).elim) (fun a => (tf q1 a).elim) (fun a => (tf q1 a).elim) (fun a => (tf q1 a).elim))
        | false =>
        cases q5 : (c == 10) with
        | true =>
          obtain ⟨HR, c1, b1, r1, m1⟩ := wstr_ok hB0 hb0 ⟨#[92, 110]⟩ (by decide) (by simp only [bl]; show q.length + 2 ≤ 100000000; omega)
          exact fin HR [92, 110] (by rw [hE, q1, q5]; rfl) b1 r1 m1 (step69 (SH := ⟨X.toArray⟩) nx wz (fun a => (tf a q1).elim) (fun _ _ => ⟨_, c1⟩) (fun _ a => (tf q5 a).elim) (fun _ a => (tf q5 a).elim) (fun _ a => (tf q5 a).elim))
        | false =>
        cases q6 : (c == 9) with
        | true =>
          obtain ⟨HR, c1, b1, r1, m1⟩ := wstr_ok hB0 hb0 ⟨#[92, 116]⟩ (by decide) (by simp only [bl]; show q.length + 2 ≤ 100000000; omega)
          exact fin HR [92, 116] (by rw [hE, q1, q5, q6]; rfl) b1 r1 m1 (step69 (SH := ⟨X.toArray⟩) nx wz (fun a => (tf a q1).elim) (fun _ a => (tf a q5).elim) (fun _ _ _ => ⟨_, c1⟩) (fun _ _ a => (tf q6 a).elim) (fun _ _ a => (tf q6 a).elim))
        | false =>
        cases q7 : decide (c < 32) with
        | true =>
          have hbl : bl ⟨X.toArray⟩ = X := by simp [bl]
          obtain ⟨H1, c1, b1, r1, m1⟩ := wstr_ok hB0 hb0 ⟨#[92, 120]⟩ (by decide) (by simp only [bl]; show q.length + 2 ≤ 100000000; omega)
          obtain ⟨H2, c2, b2, r2, m2⟩ := wstr_ok b1 m1 ⟨X.toArray⟩ (by rw [hbl]; exact hxn) (by rw [hbl, List.length_append, show (bl ⟨#[92, 120]⟩).length = 2 from rfl]; omega)
          rw [hbl] at b2
          obtain ⟨HR, c3, b3, r3, m3⟩ := wbyte_ok b2 m2 92 (by rw [List.length_append, List.length_append, show (bl ⟨#[92, 120]⟩).length = 2 from rfl]; omega)
          rw [List.append_assoc, List.append_assoc] at b3
          exact fin HR (([92, 120] ++ X) ++ [92]) (by rw [hE, q1, q5, q6, q7]; rfl) (by rw [List.append_assoc]; exact b3) ((r1.trans r2).trans r3) m3 (step69 (SH := ⟨X.toArray⟩) nx wz (fun a => (tf a q1).elim) (fun _ a => (tf a q5).elim) (fun _ _ a => (tf a q6).elim) (fun _ _ _ _ => ⟨H1, H2, _, _, _, c1, hf (d32 q7), c2, c3⟩) (fun _ _ _ a => (tf q7 a).elim))
        | false =>
          obtain ⟨rr, HR, c1, b1, r1, m1⟩ := wr hB0 hb0 (by omega)
          exact fin HR E (by rw [hE, q1, q5, q6, q7]; rfl) b1 r1 m1 (step69 (SH := ⟨X.toArray⟩) nx wz (fun a => (tf a q1).elim) (fun _ a => (tf a q5).elim) (fun _ _ a => (tf a q6).elim) (fun _ _ _ a => (tf a q7).elim) (fun _ _ _ _ => ⟨_, c1⟩))
      · have nx : evNext h (.it 2) = some (.tup [.v (.bool false)], h) := by
          simp only [evNext, h2, hp, if_false]
        rw [rns_nil hp, List.flatMap_nil, List.append_nil] at hR
        subst hR
        exact ⟨_, _, _, exit69 nx, rfl, hBq, hbb, hlen, _, _, rfl⟩)
  obtain ⟨rfl, a1, a2, a3, x8, x7, rfl⟩ := g3
  exact ⟨x8, x7, h', g1, a1, a2, a3⟩
theorem cw_false {call : CallF} {K : Nat} {s W : ByteArray} {H1 H2 H3 H4 : List AO} {r1 r2 x8 x7 : AV} {bb : CC} (hk : call 70 [.v (.string s)] [] = some (.v (.bool true), [])) (hb : call 79 [.v (.string s)] [] = some (.v (.bool false), []))
    (c1 : call 66 [.ptr 0 0, .v (.int .u8 39)] [.box 61 [.v (.pointer none), .own 1 1 0 0 0], .row 5 1 0 [] 0] = some (r1, H1)) (rg : rgV H1 (.v (.string s)) = some (.it 2, H1 ++ [.siter s 0]))
    (lp : loopN (exec call K bb) K69 K [.v (.string s), .v (.string ⟨#[]⟩), .ptr 0 0, .v undef, .v (.bool false), .v (.bool false), .it 2, .v undef, .v undef, .v undef, .v undef, .v undef, .v undef, .v undef] (H1 ++ [.siter s 0]) = some (.exit 0, V69 x8 x7, H2))
    (c2 : call 66 [.ptr 0 0, .v (.int .u8 39)] H2 = some (r2, H3)) (c3 : call 53 [.ptr 0 0] H3 = some (.v (.string W), H4)) :
    lv [.var 1] (exec call K (.seq (.region [] [] c69_0) (.seq (.seq (.region [] [] c69_1) (.cond (.var 4) (.seq (.region [] [] c69_2) .ret) .skip)) (.seq (.seq (.region [] [] c69_3) (.cond (.var 5) (.seq (.region [] [] c69_4) .ret) .skip)) (.seq (.region [] [] c69_5) (.seq (.region [.ap 2 1 5 1] [] c69_6) (.seq (.seq (.region [] [] c69_7) (.block 0 (.loop K69 [] bb))) (.seq (.region [] [] c69_25) (.seq (.region [] [] c69_26) .ret)))))))) [.v (.string s), .v undef, .v undef, .v undef, .v undef, .v undef, .v undef, .v undef, .v undef, .v undef, .v undef, .v undef, .v undef, .v undef] []) = some (.v (.string W), []) := by
  have bz : bx [] 61 (some [.v (.pointer none), .v (.slice none 0 0)]) = some (.ptr 0 0, [.box 61 [.v (.pointer none), .v (.slice none 0 0)]]) := rfl
  have oz : (ofVal (.agg #[(.pointer none), (.slice none 0 0)])).cl = some [.v (.pointer none), .v (.slice none 0 0)] := by simp [ofVal, AV.cl, Value.oneCell']
  have mk : ∀ v0 v1 v3 v4 v5 v6 v7 v8 v9 v10 v11 v12 v13 : AV, doMark ([v0, v1, .ptr 0 0, v3, v4, v5, v6, v7, v8, v9, v10, v11, v12, v13], [.box 61 [.v (.pointer none), .v (.slice none 0 0)]]) (.ap 2 1 5 1) = ([v0, v1, .ptr 0 0, v3, v4, v5, v6, v7, v8, v9, v10, v11, v12, v13], [.box 61 [.v (.pointer none), .own 1 1 0 0 0], .row 5 1 0 [] 0]) := fun _ _ _ _ _ _ _ _ _ _ _ _ _ => rfl
  simp only [V69, c69_0, c69_1, c69_3, c69_5, c69_6, c69_7, c69_25, c69_26, hk, hb, snap_str, oz, bz, x_region_m, List.foldl_cons, List.foldl_nil, mk, marked_eq, c1, e_callh, List.map_cons, List.map_nil, e_range, rg, lp, c2, c3, Bool.not_true, Q0, Q1, Q2, Q3, Q4, Q5, Q6, Q7, Q8, Q9, Q10, Q11, Q12, Q13, Q14, Q15, Q16, Q17, Q18, Q19, Q20, Q21, Q22, Q23, Q24, Q25, Q26, Q27, Q28, Q29, Q30, Q31, Q32, Q33, Q35, Q36, Q37, Q38, Q39, Q40, Q41, Q42, Q43, Q44, Q45, Q46, Q47, Q48, Q49, Q50, Q51, Q52, Q53, Q54, Q55, Q56, Q57, Q58, Q59, Q60, Q61, Q62, Q63, Q64, Q65, Q66, Q67, Q68, Q69, Q70, Q71, Q72, Q73, Q99, Q100, Q101, Q102, Q103, Q74, Q75, Q77, Q78, Q79, Q80, Q81, Q82, Q83, Q84, clr, List.length_nil, List.length_cons, List.getElem?_cons_zero, List.getElem?_cons_succ, Nat.reduceAdd, Nat.zero_add, Nat.add_zero, Nat.reduceLeDiff, Nat.reduceSub, ↓reduceIte, List.drop_succ_cons, List.drop_zero, List.take_succ_cons, List.take_zero, Bool.false_eq_true, List.nil_append, List.cons_append, Bool.not_true, Bool.not_false, cond_true, cond_false, bne, Q85, Q86, Q87, Q88, Q89, Q90, Q91, Q92, Q93, Q94, Q95, Q96, Q97, Q98, Q110, Q111, Q116, Q117, Q118, Q119, Q120, Q121, Q122, Q123, Option.map_some, Option.map_none]
theorem Bd.string {H : List AO} {b rid : Nat} {l : List UInt8} (h : Bd H b rid l) (h0 : l ≠ []) (hl : l.length ≤ 100000000) : ∃ H', callW F 53 [.ptr b 0] H = some (.v (.string ⟨l.toArray⟩), H') := by
  obtain ⟨p, ver, hp, hB⟩ := h
  have hpos : 0 < l.length := List.length_pos_iff.2 h0
  refine ⟨H.set rid (.row 5 1 (ver + 1) [] 0), callW_oracle (g := stringG 61 5) rfl ?_⟩
  simp only [stringG, hB.box, if_true, hB.row, List.length_map, true_and]
  rw [if_pos ⟨hpos, by omega⟩, strL_u8]
  rfl
theorem cwrite_ok (hfmt : ∀ c : Nat, c < 32 → callW F 81 [.v (.int .i64 (c : Int)), .v (.int .i64 16)] [] = some (.v (.string ⟨(hexL c).toArray⟩), [])) {s : ByteArray} (hchk : chkS s = true) : callW F 69 [.v (.string s)] [] = some (.v (.string ⟨(writeL s).toArray⟩), []) := by
  have hk := chk_ok s
  rw [hchk] at hk
  have hd255 : decide ((s.size : Int) ≤ 255) = true := by
    simp only [chkS, Bool.and_eq_true] at hchk
    exact hchk.1
  have h255 : s.size ≤ 255 := by
    have := of_decide_eq_true hd255
    omega
  have hb := bareS_ok hd255
  refine callW_pure (c := c69) rfl rfl (s.size + 1) ?_
  have hs : ⟨(bl s).toArray⟩ = s := (bl_eta s).symm
  unfold writeL
  cases q : bareS s with
  | true =>
    rw [q] at hb
    rw [if_pos rfl, hs]
    simp only [c69, start, List.replicate, c69_0, c69_1, c69_3, c69_4, hk, hb, snap_str, Bool.not_true, Q0, Q1, Q2, Q3, Q4, Q5, Q6, Q7, Q8, Q9, Q10, Q11, Q12, Q13, Q14, Q15, Q16, Q17, Q18, Q19, Q20, Q21, Q22, Q23, Q24, Q25, Q26, Q27, Q28, Q29, Q30, Q31, Q32, Q33, Q35, Q36, Q37, Q38, Q39, Q40, Q41, Q42, Q43, Q44, Q45, Q46, Q47, Q48, Q49, Q50, Q51, Q52, Q53, Q54, Q55, Q56, Q57, Q58, Q59, Q60, Q61, Q62, Q63, Q64, Q65, Q66, Q67, Q68, Q69, Q70, Q71, Q72, Q73, Q99, Q100, Q101, Q102, Q103, Q74, Q75, Q77, Q78, Q79, Q80, Q81, Q82, Q83, Q84, clr, List.length_nil, List.length_cons, List.getElem?_cons_zero, List.getElem?_cons_succ, Nat.reduceAdd, Nat.zero_add, Nat.add_zero, Nat.reduceLeDiff, Nat.reduceSub, ↓reduceIte, List.drop_succ_cons, List.drop_zero, List.take_succ_cons, List.take_zero, Bool.false_eq_true, List.nil_append, List.cons_append, Bool.not_true, Bool.not_false, cond_true, cond_false, bne, Q85, Q86, Q87, Q88, Q89, Q90, Q91, Q92, Q93, Q94, Q95, Q96, Q97, Q98, Q110, Q111, Q116, Q117, Q118, Q119, Q120, Q121, Q122, Q123, Option.map_some, Option.map_none]
  | false =>
    rw [q] at hb
    rw [if_neg (by simp)]
    have hB0 : Bd [.box 61 [.v (.pointer none), .own 1 1 0 0 0], .row 5 1 0 [] 0] 0 1 [] := ⟨_, 0, .inl rfl, ⟨rfl, rfl⟩⟩
    obtain ⟨H1, c1, b1, r1, m1⟩ := wbyte_ok hB0 rfl 39 (by decide)
    have hlen1 : H1.length = 2 := r1.1
    have b1' : Bd (H1 ++ [.siter s 0]) 0 1 [39] := by
      obtain ⟨pp, ver, hpp, hbx⟩ := b1
      exact ⟨pp, ver, hpp, ⟨his_get hbx.box, his_get hbx.row⟩⟩
    have m1' : (H1 ++ [AO.siter s 0]).all (AO.below (H1 ++ [AO.siter s 0]).length) = true := by
      rw [List.all_append, Bool.and_eq_true]
      exact ⟨all_below_mono (by simp) m1, rfl⟩
    have i2 : (H1 ++ [AO.siter s 0])[2]? = some (.siter s 0) := by
      rw [List.getElem?_append_right (by omega), hlen1]; rfl
    obtain ⟨x8, x7, H2, lp, b2, m2, _⟩ := cwrite_loop hfmt h255 [.v (.string s), .v (.string ⟨#[]⟩), .ptr 0 0, .v undef, .v (.bool false), .v (.bool false), .it 2, .v undef, .v undef, .v undef, .v undef, .v undef, .v undef, .v undef] (H1 ++ [.siter s 0]) [39] (by decide) b1' i2 m1' rfl
    have hfl : ∀ L : List Nat, (L.flatMap escL).length ≤ 5 * L.length := by
      intro L
      induction L with
      | nil => simp
      | cons c L ih =>
        have := escL_len c
        rw [List.flatMap_cons, List.length_append, List.length_cons]; omega
    have hfl := hfl (runesOf s)
    have hlen := rns_len s s.size 0
    rw [show rns s s.size 0 = runesOf s from rfl] at hlen
    obtain ⟨H3, c2, b3, r3, m3⟩ := wbyte_ok b2 m2 39 (by rw [List.length_append]; simp only [List.length_cons, List.length_nil]; omega)
    obtain ⟨H4, c3⟩ := b3.string (by simp) (by rw [List.length_append, List.length_append]; simp only [List.length_cons, List.length_nil]; omega)
    have rg : rgV H1 (.v (.string s)) = some (.it 2, H1 ++ [.siter s 0]) := by simp only [rgV, hlen1]
    have fin := cw_false hk hb c1 rg lp c2 c3
    have eW : ([39] ++ (runesOf s).flatMap escL ++ [39] : List UInt8) = 39 :: ((runesOf s).flatMap escL ++ [39]) := rfl
    rw [← eW]
    exact fin
end Go.AE.YtgcbaefclkfnoaaDoor
end

/-! A term's text: the program's, written into a builder of its caller's. -/
section
set_option linter.unusedVariables false
set_option linter.unusedSimpArgs false
namespace Go.AE.YtgcbaefclkfnoaaDoor
open Go Go.AE Go.Proofs.YtgcbaefclkfnoaaDoor

def headW (k : Int) (s : ByteArray) (n : Int) : List UInt8 := if (k == 1) = true then 95 :: bl (numT n) else if (k == 3) = true then bl (numT n) else writeL s
mutual
def wrT : Tm → List UInt8
  | .mk k s n l => headW k s n ++ (wrL 40 l ++ (if l.isEmpty then [] else [41]))
def wrL : UInt8 → List Tm → List UInt8
  | _, [] => []
  | c, a :: l => c :: (wrT a ++ wrL 44 l)
end
/-! ### The builder lies ahead of what is made here -/
theorem Bd.app {H tl : List AO} {b rid : Nat} {l : List UInt8} (h : Bd H b rid l) : Bd (H ++ tl) b rid l := by
  obtain ⟨p, ver, hp, hB⟩ := h
  exact ⟨p, ver, hp, ⟨his_get hB.box, his_get hB.row⟩⟩
theorem Bd.lt {H : List AO} {b rid : Nat} {l : List UInt8} (h : Bd H b rid l) : b < H.length ∧ rid < H.length := by
  obtain ⟨p, ver, hp, hB⟩ := h
  exact ⟨(List.getElem?_eq_some_iff.1 hB.box).1, (List.getElem?_eq_some_iff.1 hB.row).1⟩
theorem Bd.cut {H tl : List AO} {b rid : Nat} {l : List UInt8} (h : Bd (H ++ tl) b rid l) (h1 : b < H.length) (h2 : rid < H.length) : Bd H b rid l := by
  obtain ⟨p, ver, hp, hB⟩ := h
  refine ⟨p, ver, hp, ⟨?_, ?_⟩⟩
  · have := hB.box; rwa [List.getElem?_append_left h1] at this
  · have := hB.row; rwa [List.getElem?_append_left h2] at this
theorem Rst.split {H tl K : List AO} {b rid : Nat} (h1 : b < H.length) (h2 : rid < H.length) (a : Rst b rid (H ++ tl) K) : ∃ H', K = H' ++ tl ∧ Rst b rid H H' := by
  have hl := a.1
  rw [List.length_append] at hl
  refine ⟨K.take H.length, ?_, ?_, fun j e1 e2 => ?_⟩
  · refine List.ext_getElem? fun j => ?_
    by_cases hj : j < H.length
    · rw [List.getElem?_append_left (by rw [List.length_take]; omega), List.getElem?_take_of_lt hj]
    · rw [a.2 j (by omega) (by omega), List.getElem?_append_right (by omega), List.getElem?_append_right (by rw [List.length_take]; omega)]
      congr 1
      rw [List.length_take]; omega
  · rw [List.length_take]; omega
  · by_cases hj : j < H.length
    · rw [List.getElem?_take_of_lt hj, a.2 j e1 e2, List.getElem?_append_left hj]
    · rw [List.getElem?_eq_none (by rw [List.length_take]; omega), List.getElem?_eq_none (by omega)]
theorem Bd.bel {H H' : List AO} {b rid : Nat} {l : List UInt8} (hB : Bd H' b rid l) (h : H.all (AO.below H.length) = true) (r : Rst b rid H H') : H'.all (AO.below H'.length) = true := by
  obtain ⟨p, ver, hp, hB⟩ := hB
  have hlb : b < H'.length := (List.getElem?_eq_some_iff.1 hB.box).1
  have hlr : rid < H'.length := (List.getElem?_eq_some_iff.1 hB.row).1
  rw [List.all_eq_true] at h ⊢
  intro o ho
  obtain ⟨j, hj⟩ := List.getElem?_of_mem ho
  by_cases e1 : j = b
  · subst e1
    rw [hB.box] at hj; cases hj
    rcases hp with rfl | rfl <;> simp [AO.below, AV.below1, AV.below0, hlb, hlr]
  · by_cases e2 : j = rid
    · subst e2
      rw [hB.row] at hj; cases hj; rfl
    · rw [r.2 j e1 e2] at hj
      rw [r.1]
      exact h o (List.mem_of_getElem? hj)
theorem app_below {H tl : List AO} (hb : H.all (AO.below H.length) = true) (ht : tl.all (AO.below 0) = true) : (H ++ tl).all (AO.below (H ++ tl).length) = true := by
  rw [List.all_append, Bool.and_eq_true]
  exact ⟨all_below_mono (by simp) hb, all_below_mono (Nat.zero_le _) ht⟩
section
variable {H tl : List AO} {b rid : Nat} {l : List UInt8}
theorem wbyte_app (h : Bd H b rid l) (hb : H.all (AO.below H.length) = true) (ht : tl.all (AO.below 0) = true) (x : UInt8) (hl : l.length ≤ 90000000) :
    ∃ H', callW F 66 [.ptr b 0, .v (.int .u8 x.toNat)] (H ++ tl) = some (.v .nilIface, H' ++ tl) ∧ Bd H' b rid (l ++ [x]) ∧ Rst b rid H H' ∧ H'.all (AO.below H'.length) = true := by
  obtain ⟨K, c1, b1, r1, m1⟩ := wbyte_ok h.app (app_below hb ht) x hl
  obtain ⟨H', rfl, r2⟩ := r1.split h.lt.1 h.lt.2
  have b2 := b1.cut (by rw [r2.1]; exact h.lt.1) (by rw [r2.1]; exact h.lt.2)
  exact ⟨H', c1, b2, r2, b2.bel hb r2⟩
theorem wstr_app (h : Bd H b rid l) (hb : H.all (AO.below H.length) = true) (ht : tl.all (AO.below 0) = true) (s : ByteArray) (hs0 : bl s ≠ []) (hl : l.length + (bl s).length ≤ 100000000) :
    ∃ H', callW F 67 [.ptr b 0, .v (.string s)] (H ++ tl) = some (.tup [.v (.int .i64 s.size), .v .nilIface], H' ++ tl) ∧ Bd H' b rid (l ++ bl s) ∧ Rst b rid H H' ∧ H'.all (AO.below H'.length) = true := by
  obtain ⟨K, c1, b1, r1, m1⟩ := wstr_ok h.app (app_below hb ht) s hs0 hl
  obtain ⟨H', rfl, r2⟩ := r1.split h.lt.1 h.lt.2
  have b2 := b1.cut (by rw [r2.1]; exact h.lt.1) (by rw [r2.1]; exact h.lt.2)
  exact ⟨H', c1, b2, r2, b2.bel hb r2⟩
end
theorem writeL_ne (s : ByteArray) (h : bareS s = true) : bl s ≠ [] := by
  intro e
  have : s = ⟨#[]⟩ := by rw [bl_eta s, e]
  subst this
  exact absurd h (by rw [show bareS ⟨#[]⟩ = false by kernel_rfl]; decide)
theorem writeL_pos (s : ByteArray) : writeL s ≠ [] := by
  unfold writeL
  split
  · rename_i h; exact writeL_ne s h
  · simp
theorem bl_writeL (s : ByteArray) : bl ⟨(writeL s).toArray⟩ = writeL s := by simp [bl]
theorem num_pos (n : Int) : bl (numT n) ≠ [] := by
  have := decD_pos n.natAbs
  intro e
  have e2 : (bl (numT n)).length = 0 := by rw [e]; rfl
  simp only [bl, numT, List.length_append] at e2
  omega
def V52 (b B : Nat) (c : AV) (n i : Int) (x11 : AV) : List AV := [.ptr b 0, .junk, .ptr B 0, .junk, .junk, .junk, .junk, .junk, c, .v (.int .i64 n), .v (.int .i64 i), x11, .junk, .junk]
def K52 : List Bool := [true, false, true, false, false, false, false, false, true, true, true, false, false, false]
theorem lv52 {H l : List AO} {vars : List AV} (hb : H.all (AO.below H.length) = true) {B : Nat} (hB : H.length = B) : leave B c52 (some (.normal, vars, H ++ l)) = some (.tup [], H) := by
  subst hB
  have h1 := leave_own (c := c52) (vars := vars) (H := H) (l := l) rfl hb
  have h2 : leave H.length c52 (some (.normal, vars, H ++ l)) = leave H.length c52 (some (.ret, vars, H ++ l)) := rfl
  rw [h2, h1, show c52.res = [] from rfl]
  rfl
def wrR (l : List Tm) (i : Nat) : List UInt8 := wrL (if i = 0 then 40 else 44) (l.drop i)
theorem blk_out1 {vs : List AV} {h : List AO} : blk 2 (some (.exit 1, vs, h)) = some (.exit 1, vs, h) := rfl
theorem head52 (hfmt : ∀ c : Nat, c < 32 → callW F 81 [.v (.int .i64 (c : Int)), .v (.int .i64 16)] [] = some (.v (.string ⟨(hexL c).toArray⟩), [])) {k n : Int} {s : ByteArray} {l : List Tm} (hm : mayT (.mk k s n l) = true) (hr : rg n) {H : List AO} {b rid : Nat} {q : List UInt8} (h : Bd H b rid q) (hb : H.all (AO.below H.length) = true) (c : AV) (ht : (tb k n s c).below 0 = true) (hl : q.length + (headW k s n).length ≤ 90000000) {K : Nat} {a1 : AV} :
    ∃ H1 x5 x6 x7, exec (callW F) K (.seq (.region [] [] c52_1) (.block 0 (.seq (.region [] [] c52_2) (.cond (.var 6) (.seq (.region [] [] c52_3) (.region [] [] c52_4)) (.seq (.region [] [] c52_5) (.cond (.var 7) (.region [] [] c52_6) (.region [] [] c52_7))))))) [.ptr b 0, a1, .ptr H.length 0, .v undef, .v undef, .v undef, .v undef, .v undef, .v undef, .v undef, .v undef, .v undef, .v undef, .v undef] (H ++ [tb k n s c]) =
      some (.normal, [.ptr b 0, a1, .ptr H.length 0, .v undef, .v undef, x5, x6, x7, .v undef, .v undef, .v undef, .v undef, .v undef, .v undef], H1 ++ [tb k n s c]) ∧ Bd H1 b rid (q ++ headW k s n) ∧ Rst b rid H H1 ∧ H1.all (AO.below H1.length) = true := by
  have htl : ([tb k n s c] : List AO).all (AO.below 0) = true := by simp only [List.all_cons, List.all_nil, ht, Bool.and_true]
  have ld : ∀ (H' : List AO), H'.length = H.length → ∀ (l : List AO) (a : Bool) (sz o : Nat), Q76 (H' ++ l) a sz (.ptr H.length o) = ldAt l 0 a sz o := fun H' h l a sz o => own_ld0 h
  have A0 : ldAt [tb k n s c] 0 false 1 0 = some (.v (.int .i64 k)) := rfl
  have A1 : ldAt [tb k n s c] 0 false 1 1 = some (.v (.string s)) := rfl
  have A2 : ldAt [tb k n s c] 0 false 1 2 = some (.v (.int .i64 n)) := rfl
  have hn := num_ok hr
  unfold headW at hl ⊢
  cases h1 : (k == 1) with
  | true =>
    rw [h1, if_pos rfl] at hl
    rw [List.length_cons] at hl
    obtain ⟨H1, d1, b1, r1, m1⟩ := wbyte_app h hb htl 95 (by omega)
    obtain ⟨H2, d2, b2, r2, m2⟩ := wstr_app b1 m1 htl (numT n) (num_pos n) (by rw [List.length_append]; simp only [List.length_cons, List.length_nil]; omega)
    have d1' : callW F 66 [.ptr b 0, .v (.int .u8 95)] (H ++ [tb k n s c]) = some (.v .nilIface, H1 ++ [tb k n s c]) := d1
    refine ⟨H2, .v (.int .i64 k), .v (.bool true), .v undef, ?_, by rw [List.append_assoc] at b2; exact b2, r1.trans r2, m2⟩
    simp only [c52_1, c52_2, c52_3, c52_4, ld _ rfl, ld _ r1.1, A0, A2, h1, d1', d2, hn, e_callh, List.map_cons, List.map_nil, snap_int, Q0, Q1, Q2, Q3, Q4, Q5, Q6, Q7, Q8, Q9, Q10, Q11, Q12, Q13, Q14, Q15, Q16, Q17, Q18, Q19, Q20, Q21, Q22, Q23, Q24, Q25, Q26, Q27, Q28, Q29, Q30, Q31, Q32, Q33, Q35, Q36, Q37, Q38, Q39, Q40, Q41, Q42, Q43, Q44, Q45, Q46, Q47, Q48, Q49, Q50, Q51, Q52, Q53, Q54, Q55, Q56, Q57, Q58, Q59, Q60, Q61, Q62, Q63, Q64, Q65, Q66, Q67, Q68, Q69, Q70, Q71, Q72, Q73, Q99, Q100, Q101, Q102, Q103, Q74, Q75, Q77, Q78, Q79, Q80, Q81, Q82, Q83, Q84, clr, List.length_nil, List.length_cons, List.getElem?_cons_zero, List.getElem?_cons_succ, Nat.reduceAdd, Nat.zero_add, Nat.add_zero, Nat.reduceLeDiff, Nat.reduceSub, ↓reduceIte, List.drop_succ_cons, List.drop_zero, List.take_succ_cons, List.take_zero, Bool.false_eq_true, List.nil_append, List.cons_append, Bool.not_true, Bool.not_false, cond_true, cond_false, bne, Q85, Q86, Q87, Q88, Q89, Q90, Q91, Q92, Q93, Q94, Q95, Q96, Q97, Q98, Q110, Q111, Q116, Q117, Q118, Q119, Q120, Q121, Q122, Q123, Option.map_some, Option.map_none]
  | false =>
    cases h3 : (k == 3) with
    | true =>
      rw [h1, h3, if_neg (by simp), if_pos rfl] at hl
      obtain ⟨H2, d2, b2, r2, m2⟩ := wstr_app h hb htl (numT n) (num_pos n) (by omega)
      refine ⟨H2, .v (.int .i64 k), .v (.bool false), .v (.bool true), ?_, b2, r2, m2⟩
      simp only [c52_1, c52_2, c52_5, c52_6, ld _ rfl, A0, A2, h1, h3, d2, hn, e_callh, List.map_cons, List.map_nil, snap_int, Q0, Q1, Q2, Q3, Q4, Q5, Q6, Q7, Q8, Q9, Q10, Q11, Q12, Q13, Q14, Q15, Q16, Q17, Q18, Q19, Q20, Q21, Q22, Q23, Q24, Q25, Q26, Q27, Q28, Q29, Q30, Q31, Q32, Q33, Q35, Q36, Q37, Q38, Q39, Q40, Q41, Q42, Q43, Q44, Q45, Q46, Q47, Q48, Q49, Q50, Q51, Q52, Q53, Q54, Q55, Q56, Q57, Q58, Q59, Q60, Q61, Q62, Q63, Q64, Q65, Q66, Q67, Q68, Q69, Q70, Q71, Q72, Q73, Q99, Q100, Q101, Q102, Q103, Q74, Q75, Q77, Q78, Q79, Q80, Q81, Q82, Q83, Q84, clr, List.length_nil, List.length_cons, List.getElem?_cons_zero, List.getElem?_cons_succ, Nat.reduceAdd, Nat.zero_add, Nat.add_zero, Nat.reduceLeDiff, Nat.reduceSub, ↓reduceIte, List.drop_succ_cons, List.drop_zero, List.take_succ_cons, List.take_zero, Bool.false_eq_true, List.nil_append, List.cons_append, Bool.not_true, Bool.not_false, cond_true, cond_false, bne, Q85, Q86, Q87, Q88, Q89, Q90, Q91, Q92, Q93, Q94, Q95, Q96, Q97, Q98, Q110, Q111, Q116, Q117, Q118, Q119, Q120, Q121, Q122, Q123, Option.map_some, Option.map_none]
    | false =>
      rw [h1, h3, if_neg (by simp), if_neg (by simp)] at hl
      have hck : chkS s = true := by
        rw [mayT, h1, h3] at hm
        cases h2 : (k == 2) <;> cases h4 : (k == 4) <;> simp [h2, h4] at hm <;> first | exact hm.2.2.2.1 | exact hm.2.2
      have hw := cwrite_ok hfmt hck
      obtain ⟨H2, d2, b2, r2, m2⟩ := wstr_app h hb htl ⟨(writeL s).toArray⟩ (by rw [bl_writeL]; exact writeL_pos s) (by rw [bl_writeL]; omega)
      rw [bl_writeL] at b2
      refine ⟨H2, .v (.int .i64 k), .v (.bool false), .v (.bool false), ?_, b2, r2, m2⟩
      simp only [c52_1, c52_2, c52_5, c52_7, ld _ rfl, A0, A1, h1, h3, d2, hw, e_callh, List.map_cons, List.map_nil, snap_str, Q0, Q1, Q2, Q3, Q4, Q5, Q6, Q7, Q8, Q9, Q10, Q11, Q12, Q13, Q14, Q15, Q16, Q17, Q18, Q19, Q20, Q21, Q22, Q23, Q24, Q25, Q26, Q27, Q28, Q29, Q30, Q31, Q32, Q33, Q35, Q36, Q37, Q38, Q39, Q40, Q41, Q42, Q43, Q44, Q45, Q46, Q47, Q48, Q49, Q50, Q51, Q52, Q53, Q54, Q55, Q56, Q57, Q58, Q59, Q60, Q61, Q62, Q63, Q64, Q65, Q66, Q67, Q68, Q69, Q70, Q71, Q72, Q73, Q99, Q100, Q101, Q102, Q103, Q74, Q75, Q77, Q78, Q79, Q80, Q81, Q82, Q83, Q84, clr, List.length_nil, List.length_cons, List.getElem?_cons_zero, List.getElem?_cons_succ, Nat.reduceAdd, Nat.zero_add, Nat.add_zero, Nat.reduceLeDiff, Nat.reduceSub, ↓reduceIte, List.drop_succ_cons, List.drop_zero, List.take_succ_cons, List.take_zero, Bool.false_eq_true, List.nil_append, List.cons_append, Bool.not_true, Bool.not_false, cond_true, cond_false, bne, Q85, Q86, Q87, Q88, Q89, Q90, Q91, Q92, Q93, Q94, Q95, Q96, Q97, Q98, Q110, Q111, Q116, Q117, Q118, Q119, Q120, Q121, Q122, Q123, Option.map_some, Option.map_none]
theorem may_args {k n : Int} {s : ByteArray} {l : List Tm} (hm : mayT (.mk k s n l) = true) : mayL l = true := by
  cases l with
  | nil => rfl
  | cons a l =>
    rw [mayT] at hm
    have h0 : (((a :: l).length : Int) == 0) = false := by simp; omega
    rw [h0] at hm
    cases h1 : (k == 1) <;> cases h2 : (k == 2) <;> cases h3 : (k == 3) <;> cases h4 : (k == 4) <;> simp [h1, h2, h3, h4] at hm <;> exact hm.2.2.2
theorem may_at : ∀ {l : List Tm} {i : Nat} (h : i < l.length), mayL l = true → mayT l[i] = true
  | a :: l, 0, _, hm => by rw [mayL, Bool.and_eq_true] at hm; exact hm.1
  | a :: l, i + 1, h, hm => by rw [mayL, Bool.and_eq_true] at hm; exact may_at (l := l) (i := i) (by simpa using h) hm.2
theorem rg_at : ∀ {l : List Tm} {i : Nat} (h : i < l.length), rgL l → rgT l[i]
  | a :: l, 0, _, hm => hm.1
  | a :: l, i + 1, h, hm => rg_at (l := l) (i := i) (by simpa using h) hm.2
theorem wrR_cons {l : List Tm} {i : Nat} (h : i < l.length) : wrR l i = (if i = 0 then 40 else 44) :: (wrT l[i] ++ wrR l (i + 1)) := by
  unfold wrR
  rw [List.drop_eq_getElem_cons h, wrL, if_neg (show ¬ i + 1 = 0 by omega)]
theorem wrR_nil {l : List Tm} {i : Nat} (h : ¬ i < l.length) : wrR l i = [] := by
  unfold wrR
  rw [List.drop_of_length_le (by omega), wrL]
theorem write_ok (hfmt : ∀ c : Nat, c < 32 → callW F 81 [.v (.int .i64 (c : Int)), .v (.int .i64 16)] [] = some (.v (.string ⟨(hexL c).toArray⟩), [])) : ∀ (N : Nat) (t : Tm) (a : AV) (H : List AO) (b rid : Nat) (q : List UInt8), SizeOf.sizeOf t < N → mayT t = true → rgT t → IsT a t → Bd H b rid q → H.all (AO.below H.length) = true → q.length + (wrT t).length ≤ 90000000 →
    ∃ H', callW F 52 [.ptr b 0, a] H = some (.tup [], H') ∧ Bd H' b rid (q ++ wrT t) ∧ Rst b rid H H' ∧ H'.all (AO.below H'.length) = true := by
  intro N
  induction N with
  | zero => intro t a H b rid q h; omega
  | succ N ih =>
    intro t a H b rid q hN hm hr ha hB hb hl
    have hbela := ha.bel
    cases ha with
    | mk k s n c l hc =>
    obtain ⟨es, hs, hes, hmx⟩ := hc.sl
    have hll := hes.length
    have q1 := fun h : List AO => hs.len h
    rw [hll] at q1
    have hbt : (tb k n s c).below 0 = true := hbela
    have hml := may_args hm
    have hrl : rgL l := hr.2
    obtain ⟨B, hHB⟩ : ∃ B, H.length = B := ⟨_, rfl⟩
    have ld : ∀ (H' : List AO), H'.length = B → ∀ (l : List AO) (a : Bool) (sz k o : Nat), Q76 (H' ++ l) a sz (.ptr (B + k) o) = ldAt l k a sz o := fun H' h l a sz k o => own_ld h
    have ld0 : ∀ (H' : List AO), H'.length = B → ∀ (l : List AO) (a : Bool) (sz o : Nat), Q76 (H' ++ l) a sz (.ptr B o) = ldAt l 0 a sz o := fun H' h l a sz o => own_ld0 h
    have st : ∀ (H' : List AO), H'.length = B → ∀ (l : List AO) (sz k o : Nat) (x : AV), Q113 (H' ++ l) sz (.ptr (B + k) o) x = preH H' (stAt l sz k o x) := fun H' h l sz k o x => own_st h
    have bxx : ∀ (H' : List AO), H'.length = B → ∀ (l : List AO) (bt : TypeId) (cs : List AV), bx (H' ++ l) bt (some cs) = some (.ptr (B + l.length) 0, H' ++ (l ++ [.box bt cs])) := fun H' h l bt cs => own_bx h
    have ldc : ∀ tl : List AO, ldAt (tb k n s c :: tl) 0 false 1 3 = some c := fun _ => rfl
    have hwr : wrT (.mk k s n l) = headW k s n ++ (wrR l 0 ++ (if l.isEmpty then [] else [41])) := by rw [wrT]; rfl
    rw [hwr] at hl ⊢
    obtain ⟨H1, x5, x6, x7, e1, b1, r1, m1⟩ := head52 hfmt hm hr.1 hB hb c hbt (by rw [List.length_append] at hl; omega) (K := l.length + 1) (a1 := .agg [.v (.int .i64 k), .v (.string s), .v (.int .i64 n), c])
    rw [hHB] at e1
    have loop : ∀ (v : List AV), clr K52 v = V52 b B c l.length 0 .junk →
        ∃ H2 tl, loopN (exec (callW F) (l.length + 1) c52_16) K52 (l.length + 1) v (H1 ++ [tb k n s c]) = some (.exit 1, V52 b B c l.length l.length (.v (.bool false)), H2 ++ (tb k n s c :: tl)) ∧ tl.all (AO.below 0) = true ∧ Bd H2 b rid (q ++ headW k s n ++ wrR l 0) ∧ Rst b rid H H2 ∧ H2.all (AO.below H2.length) = true := by
      intro v hv
      obtain ⟨e, v', h', g1, g2, g3⟩ := loop_rule0 (call := callW F) (K := l.length + 1) (b := c52_16) (keep := K52)
        (fun i v h => ∃ H' tl p, v = V52 b B c l.length i .junk ∧ h = H' ++ (tb k n s c :: tl) ∧ tl.all (AO.below 0) = true ∧ Bd H' b rid p ∧ Rst b rid H H' ∧ H'.all (AO.below H'.length) = true ∧ p ++ wrR l i = q ++ headW k s n ++ wrR l 0)
        (fun e v h => e = .exit 1 ∧ v = V52 b B c l.length l.length (.v (.bool false)) ∧ ∃ H' tl, h = H' ++ (tb k n s c :: tl) ∧ tl.all (AO.below 0) = true ∧ Bd H' b rid (q ++ headW k s n ++ wrR l 0) ∧ Rst b rid H H' ∧ H'.all (AO.below H'.length) = true)
        l.length (m := l.length + 1) (v := v) (h := H1 ++ [tb k n s c]) (by omega) ⟨H1, [], q ++ headW k s n, hv, rfl, rfl, b1, r1, m1, rfl⟩ (by
          rintro i v h hi ⟨H', tl, p, rfl, rfl, htl, hB', hr', hb', hR⟩
          have hH' : H'.length = B := by rw [hr'.1, hHB]
          by_cases hil : i < l.length
          · have hle : i < es.length := by omega
            have hT := hes.at hle hil
            have hlt := lt_t hil
            have he : es[i]? = some es[i] := List.getElem?_eq_getElem hle
            have q2 := fun h : List AO => hs.ia he h
            have hf := hT.facts
            have hw := wrap_succ hle hmx
            have hbe : ([AO.box 24 es[i].cells] : List AO).all (AO.below 0) = true := by
              have := hT.bel
              simp only [AO.below] at this
              simp only [List.all_cons, List.all_nil, AO.below, this, Bool.and_true]
            have hlb : (tb k n s c :: (tl ++ [AO.box 24 es[i].cells]) : List AO).all (AO.below 0) = true := by
              rw [List.all_cons, hbt, List.all_append, htl, hbe]; rfl
            rw [wrR_cons hil] at hR
            have hlen := congrArg List.length hR
            simp only [List.length_append, List.length_cons] at hlen hl
            have ldx : ldAt (tb k n s c :: (tl ++ [AO.box 24 es[i].cells])) (tl.length + 1) true 4 0 = some es[i] := by
              have := hf.2.2.2.1 (tb k n s c :: tl) 24
              rw [← this]
              simp only [ldAt, Q76, List.length_cons, List.cons_append]
              rfl
            have stx : stAt (tb k n s c :: (tl ++ [AO.box 24 [.v (.int .i64 0), .v (.string ⟨#[]⟩), .v (.int .i64 0), .v (.slice none 0 0)]])) 4 (tl.length + 1) 0 es[i] = some (tb k n s c :: (tl ++ [AO.box 24 es[i].cells])) := by
              have := hf.2.2.1 (tb k n s c :: tl) 24 (.v (.int .i64 0)) (.v (.string ⟨#[]⟩)) (.v (.int .i64 0)) (.v (.slice none 0 0))
              simp only [List.length_cons, List.cons_append] at this
              rw [← this]
              simp only [stAt, Q113]
              rfl
            by_cases hi0 : i = 0
            · have hz : ((i : Int) == 0) = true := by subst hi0; rfl
              rw [if_pos hi0] at hR
              obtain ⟨H3, d3, b3, r3, m3⟩ := wbyte_app hB' hb' hlb 40 (by omega)
              have d3' : callW F 66 [.ptr b 0, .v (.int .u8 40)] (H' ++ (tb k n s c :: (tl ++ [AO.box 24 es[i].cells]))) = some (.v .nilIface, H3 ++ (tb k n s c :: (tl ++ [AO.box 24 es[i].cells]))) := d3
              obtain ⟨KK, d4, b4, r4, m4⟩ := ih l[i] es[i] (H3 ++ (tb k n s c :: (tl ++ [AO.box 24 es[i].cells]))) b rid (p ++ [40]) (by have := IsL.mem_size (k := k) (n := n) (s := s) (List.getElem_mem hil); omega) (may_at hil hml) (rg_at hil hrl) hT b3.app (app_below m3 hlb) (by rw [List.length_append]; simp only [List.length_cons, List.length_nil]; omega)
              obtain ⟨H4, rfl, r5⟩ := r4.split b3.lt.1 b3.lt.2
              have b5 := b4.cut (by rw [r5.1]; exact b3.lt.1) (by rw [r5.1]; exact b3.lt.2)
              have h3B : H3.length = B := by rw [r3.1, hH']
              have h4B : H4.length = B := by rw [r5.1, h3B]
              refine ⟨.normal, [.ptr b 0, .junk, .ptr B 0, .v (.int .i64 i), .ptr (B + (tl.length + 1)) 0, .junk, .junk, .junk, c, .v (.int .i64 l.length), .v (.int .i64 ((i + 1 : Nat) : Int)), .v (.bool true), .v (.bool true), .junk], H4 ++ (tb k n s c :: (tl ++ [AO.box 24 es[i].cells])), ?_, hil, H4, tl ++ [AO.box 24 es[i].cells], p ++ [40] ++ wrT l[i], rfl, rfl, by rw [List.all_append, htl, hbe]; rfl, b5, (hr'.trans r3).trans r5, b5.bel m3 r5, ?_⟩
              · simp only [V52, c52_16, c52_9, c52_10, c52_11, c52_12, c52_14, c52_15, hlt, hz, q2, hf, hw, q9z, ld _ hH', ld _ h3B, st _ hH', bxx _ hH', ldx, stx, preH_some, d3', d4, e_callh, List.map_cons, List.map_nil, List.length_cons, List.length_append, List.cons_append, snap_int, Q0, Q1, Q2, Q3, Q4, Q5, Q6, Q7, Q8, Q9, Q10, Q11, Q12, Q13, Q14, Q15, Q16, Q17, Q18, Q19, Q20, Q21, Q22, Q23, Q24, Q25, Q26, Q27, Q28, Q29, Q30, Q31, Q32, Q33, Q35, Q36, Q37, Q38, Q39, Q40, Q41, Q42, Q43, Q44, Q45, Q46, Q47, Q48, Q49, Q50, Q51, Q52, Q53, Q54, Q55, Q56, Q57, Q58, Q59, Q60, Q61, Q62, Q63, Q64, Q65, Q66, Q67, Q68, Q69, Q70, Q71, Q72, Q73, Q99, Q100, Q101, Q102, Q103, Q74, Q75, Q77, Q78, Q79, Q80, Q81, Q82, Q83, Q84, clr, List.length_nil, List.length_cons, List.getElem?_cons_zero, List.getElem?_cons_succ, Nat.reduceAdd, Nat.zero_add, Nat.add_zero, Nat.reduceLeDiff, Nat.reduceSub, ↓reduceIte, List.drop_succ_cons, List.drop_zero, List.take_succ_cons, List.take_zero, Bool.false_eq_true, List.nil_append, List.cons_append, Bool.not_true, Bool.not_false, cond_true, cond_false, bne, Q85, Q86, Q87, Q88, Q89, Q90, Q91, Q92, Q93, Q94, Q95, Q96, Q97, Q98, Q110, Q111, Q116, Q117, Q118, Q119, Q120, Q121, Q122, Q123, Option.map_some, Option.map_none]
              · rw [← hR]; simp only [List.append_assoc, List.cons_append, List.nil_append]
            · have hz : ((i : Int) == 0) = false := by simp; omega
              rw [if_neg hi0] at hR
              obtain ⟨H3, d3, b3, r3, m3⟩ := wbyte_app hB' hb' hlb 44 (by omega)
              have d3' : callW F 66 [.ptr b 0, .v (.int .u8 44)] (H' ++ (tb k n s c :: (tl ++ [AO.box 24 es[i].cells]))) = some (.v .nilIface, H3 ++ (tb k n s c :: (tl ++ [AO.box 24 es[i].cells]))) := d3
              obtain ⟨KK, d4, b4, r4, m4⟩ := ih l[i] es[i] (H3 ++ (tb k n s c :: (tl ++ [AO.box 24 es[i].cells]))) b rid (p ++ [44]) (by have := IsL.mem_size (k := k) (n := n) (s := s) (List.getElem_mem hil); omega) (may_at hil hml) (rg_at hil hrl) hT b3.app (app_below m3 hlb) (by rw [List.length_append]; simp only [List.length_cons, List.length_nil]; omega)
              obtain ⟨H4, rfl, r5⟩ := r4.split b3.lt.1 b3.lt.2
              have b5 := b4.cut (by rw [r5.1]; exact b3.lt.1) (by rw [r5.1]; exact b3.lt.2)
              have h3B : H3.length = B := by rw [r3.1, hH']
              have h4B : H4.length = B := by rw [r5.1, h3B]
              refine ⟨.normal, [.ptr b 0, .junk, .ptr B 0, .v (.int .i64 i), .ptr (B + (tl.length + 1)) 0, .junk, .junk, .junk, c, .v (.int .i64 l.length), .v (.int .i64 ((i + 1 : Nat) : Int)), .v (.bool true), .v (.bool false), .junk], H4 ++ (tb k n s c :: (tl ++ [AO.box 24 es[i].cells])), ?_, hil, H4, tl ++ [AO.box 24 es[i].cells], p ++ [44] ++ wrT l[i], rfl, rfl, by rw [List.all_append, htl, hbe]; rfl, b5, (hr'.trans r3).trans r5, b5.bel m3 r5, ?_⟩
              · simp only [V52, c52_16, c52_9, c52_10, c52_11, c52_13, c52_14, c52_15, hlt, hz, q2, hf, hw, q9z, ld _ hH', ld _ h3B, st _ hH', bxx _ hH', ldx, stx, preH_some, d3', d4, e_callh, List.map_cons, List.map_nil, List.length_cons, List.length_append, List.cons_append, snap_int, Q0, Q1, Q2, Q3, Q4, Q5, Q6, Q7, Q8, Q9, Q10, Q11, Q12, Q13, Q14, Q15, Q16, Q17, Q18, Q19, Q20, Q21, Q22, Q23, Q24, Q25, Q26, Q27, Q28, Q29, Q30, Q31, Q32, Q33, Q35, Q36, Q37, Q38, Q39, Q40, Q41, Q42, Q43, Q44, Q45, Q46, Q47, Q48, Q49, Q50, Q51, Q52, Q53, Q54, Q55, Q56, Q57, Q58, Q59, Q60, Q61, Q62, Q63, Q64, Q65, Q66, Q67, Q68, Q69, Q70, Q71, Q72, Q73, Q99, Q100, Q101, Q102, Q103, Q74, Q75, Q77, Q78, Q79, Q80, Q81, Q82, Q83, Q84, clr, List.length_nil, List.length_cons, List.getElem?_cons_zero, List.getElem?_cons_succ, Nat.reduceAdd, Nat.zero_add, Nat.add_zero, Nat.reduceLeDiff, Nat.reduceSub, ↓reduceIte, List.drop_succ_cons, List.drop_zero, List.take_succ_cons, List.take_zero, Bool.false_eq_true, List.nil_append, List.cons_append, Bool.not_true, Bool.not_false, cond_true, cond_false, bne, Q85, Q86, Q87, Q88, Q89, Q90, Q91, Q92, Q93, Q94, Q95, Q96, Q97, Q98, Q110, Q111, Q116, Q117, Q118, Q119, Q120, Q121, Q122, Q123, Option.map_some, Option.map_none]
              · rw [← hR]; simp only [List.append_assoc, List.cons_append, List.nil_append]
          · have hie : i = l.length := by omega
            subst hie
            have hlt := lt_f (n := l.length)
            rw [wrR_nil (by omega), List.append_nil] at hR
            subst hR
            refine ⟨.exit 1, V52 b B c l.length l.length (.v (.bool false)), H' ++ (tb k n s c :: tl), ?_, rfl, rfl, H', tl, rfl, htl, hB', hr', hb'⟩
            simp only [V52, c52_16, c52_9, hlt, Q0, Q1, Q2, Q3, Q4, Q5, Q6, Q7, Q8, Q9, Q10, Q11, Q12, Q13, Q14, Q15, Q16, Q17, Q18, Q19, Q20, Q21, Q22, Q23, Q24, Q25, Q26, Q27, Q28, Q29, Q30, Q31, Q32, Q33, Q35, Q36, Q37, Q38, Q39, Q40, Q41, Q42, Q43, Q44, Q45, Q46, Q47, Q48, Q49, Q50, Q51, Q52, Q53, Q54, Q55, Q56, Q57, Q58, Q59, Q60, Q61, Q62, Q63, Q64, Q65, Q66, Q67, Q68, Q69, Q70, Q71, Q72, Q73, Q99, Q100, Q101, Q102, Q103, Q74, Q75, Q77, Q78, Q79, Q80, Q81, Q82, Q83, Q84, clr, List.length_nil, List.length_cons, List.getElem?_cons_zero, List.getElem?_cons_succ, Nat.reduceAdd, Nat.zero_add, Nat.add_zero, Nat.reduceLeDiff, Nat.reduceSub, ↓reduceIte, List.drop_succ_cons, List.drop_zero, List.take_succ_cons, List.take_zero, Bool.false_eq_true, List.nil_append, List.cons_append, Bool.not_true, Bool.not_false, cond_true, cond_false, bne, Q85, Q86, Q87, Q88, Q89, Q90, Q91, Q92, Q93, Q94, Q95, Q96, Q97, Q98, Q110, Q111, Q116, Q117, Q118, Q119, Q120, Q121, Q122, Q123, Option.map_some, Option.map_none])
      obtain ⟨rfl, rfl, H2, tl, rfl, h1, h2, h3, h4⟩ := g3
      exact ⟨H2, tl, g1, h1, h2, h3, h4⟩
    obtain ⟨H2, tl, lp, htl, b2, r2, m2⟩ := loop [.ptr b 0, .agg [.v (.int .i64 k), .v (.string s), .v (.int .i64 n), c], .ptr B 0, .v undef, .v undef, x5, x6, x7, c, .v (.int .i64 l.length), .v (.int .i64 0), .v undef, .v undef, .v undef] rfl
    have h1B : H1.length = B := by rw [r1.1, hHB]
    have h2B : H2.length = B := by rw [r2.1, hHB]
    have hlt2 : (tb k n s c :: tl : List AO).all (AO.below 0) = true := by rw [List.all_cons, hbt, htl]; rfl
    have hbody : c52.body = (.seq (.region [] [] c52_0) (.seq (.seq (.region [] [] c52_1) (.block 0 (.seq (.region [] [] c52_2) (.cond (.var 6) (.seq (.region [] [] c52_3) (.region [] [] c52_4)) (.seq (.region [] [] c52_5) (.cond (.var 7) (.region [] [] c52_6) (.region [] [] c52_7))))))) (.seq (.seq (.region [] [] c52_8) (.block 1 (.loop K52 [] c52_16))) (.seq (.region [] [] c52_17) (.cond (.var 13) (.region [] [] c52_18) .skip))))) := rfl
    have hst : start c52 [.ptr b 0, .agg [.v (.int .i64 k), .v (.string s), .v (.int .i64 n), c]] = [.ptr b 0, .agg [.v (.int .i64 k), .v (.string s), .v (.int .i64 n), c], .v undef, .v undef, .v undef, .v undef, .v undef, .v undef, .v undef, .v undef, .v undef, .v undef, .v undef, .v undef] := rfl
    have b0 : bx (H ++ []) 24 (some [.v (.int .i64 k), .v (.string s), .v (.int .i64 n), c]) = some (.ptr B 0, H ++ [tb k n s c]) := bxx H hHB [] 24 _
    clear loop ih
    generalize (CC.seq (.region [] [] c52_1) (.block 0 (.seq (.region [] [] c52_2) (.cond (.var 6) (.seq (.region [] [] c52_3) (.region [] [] c52_4)) (.seq (.region [] [] c52_5) (.cond (.var 7) (.region [] [] c52_6) (.region [] [] c52_7))))))) = hd at e1 hbody
    generalize c52_16 = bb at lp hbody
    cases hgt : decide (((l.length : Nat) : Int) > 0) with
    | false =>
      have hie : l.isEmpty = true := by
        cases l with
        | nil => rfl
        | cons x l => simp at hgt
      have hz : l = [] := by simpa using hie
      rw [hie]
      refine ⟨H2, callW_own (c := c52) rfl rfl (l.length + 1) ?_, ?_, r2, m2⟩
      · rw [hbody, hst, ← lv52 (vars := [.ptr b 0, .junk, .ptr B 0, .junk, .junk, .junk, .junk, .junk, c, .v (.int .i64 l.length), .v (.int .i64 l.length), .v (.bool false), .junk, .v (.bool false)]) (l := tb k n s c :: tl) m2 h2B, hHB]
        congr 1
        simp only [V52, c52_0, c52_8, c52_17, b0, e1, ld0 _ h1B, ld0 _ h2B, ldc, q1, lp, hgt, Q0, Q1, Q2, Q3, Q4, Q5, Q6, Q7, Q8, Q9, Q10, Q11, Q12, Q13, Q14, Q15, Q16, Q17, Q18, Q19, Q20, Q21, Q22, Q23, Q24, Q25, Q26, Q27, Q28, Q29, Q30, Q31, Q32, Q33, Q35, Q36, Q37, Q38, Q39, Q40, Q41, Q42, Q43, Q44, Q45, Q46, Q47, Q48, Q49, Q50, Q51, Q52, Q53, Q54, Q55, Q56, Q57, Q58, Q59, Q60, Q61, Q62, Q63, Q64, Q65, Q66, Q67, Q68, Q69, Q70, Q71, Q72, Q73, Q99, Q100, Q101, Q102, Q103, Q74, Q75, Q77, Q78, Q79, Q80, Q81, Q82, Q83, Q84, clr, List.length_nil, List.length_cons, List.getElem?_cons_zero, List.getElem?_cons_succ, Nat.reduceAdd, Nat.zero_add, Nat.add_zero, Nat.reduceLeDiff, Nat.reduceSub, ↓reduceIte, List.drop_succ_cons, List.drop_zero, List.take_succ_cons, List.take_zero, Bool.false_eq_true, List.nil_append, List.cons_append, Bool.not_true, Bool.not_false, cond_true, cond_false, bne, Q85, Q86, Q87, Q88, Q89, Q90, Q91, Q92, Q93, Q94, Q95, Q96, Q97, Q98, Q110, Q111, Q116, Q117, Q118, Q119, Q120, Q121, Q122, Q123, Option.map_some, Option.map_none]
      · rw [List.append_assoc] at b2
        rw [if_pos rfl, List.append_nil]
        exact b2
    | true =>
      have hie : l.isEmpty = false := by
        cases l with
        | nil => simp at hgt
        | cons x l => rfl
      rw [hie] at hl ⊢
      obtain ⟨H5, d5, b5, r5, m5⟩ := wbyte_app b2 m2 hlt2 41 (by rw [List.length_append, List.length_append]; simp only [List.length_append] at hl; omega)
      have d5' : callW F 66 [.ptr b 0, .v (.int .u8 41)] (H2 ++ (tb k n s c :: tl)) = some (.v .nilIface, H5 ++ (tb k n s c :: tl)) := d5
      have h5B : H5.length = B := by rw [r5.1, h2B]
      refine ⟨H5, callW_own (c := c52) rfl rfl (l.length + 1) ?_, ?_, r2.trans r5, m5⟩
      · rw [hbody, hst, ← lv52 (vars := [.ptr b 0, .junk, .ptr B 0, .junk, .junk, .junk, .junk, .junk, c, .v (.int .i64 l.length), .v (.int .i64 l.length), .v (.bool false), .junk, .v (.bool true)]) (l := tb k n s c :: tl) m5 h5B, hHB]
        congr 1
        simp only [V52, c52_0, c52_8, c52_17, c52_18, b0, e1, ld0 _ h1B, ld0 _ h2B, ldc, q1, lp, hgt, d5', e_callh, List.map_cons, List.map_nil, Q0, Q1, Q2, Q3, Q4, Q5, Q6, Q7, Q8, Q9, Q10, Q11, Q12, Q13, Q14, Q15, Q16, Q17, Q18, Q19, Q20, Q21, Q22, Q23, Q24, Q25, Q26, Q27, Q28, Q29, Q30, Q31, Q32, Q33, Q35, Q36, Q37, Q38, Q39, Q40, Q41, Q42, Q43, Q44, Q45, Q46, Q47, Q48, Q49, Q50, Q51, Q52, Q53, Q54, Q55, Q56, Q57, Q58, Q59, Q60, Q61, Q62, Q63, Q64, Q65, Q66, Q67, Q68, Q69, Q70, Q71, Q72, Q73, Q99, Q100, Q101, Q102, Q103, Q74, Q75, Q77, Q78, Q79, Q80, Q81, Q82, Q83, Q84, clr, List.length_nil, List.length_cons, List.getElem?_cons_zero, List.getElem?_cons_succ, Nat.reduceAdd, Nat.zero_add, Nat.add_zero, Nat.reduceLeDiff, Nat.reduceSub, ↓reduceIte, List.drop_succ_cons, List.drop_zero, List.take_succ_cons, List.take_zero, Bool.false_eq_true, List.nil_append, List.cons_append, Bool.not_true, Bool.not_false, cond_true, cond_false, bne, Q85, Q86, Q87, Q88, Q89, Q90, Q91, Q92, Q93, Q94, Q95, Q96, Q97, Q98, Q110, Q111, Q116, Q117, Q118, Q119, Q120, Q121, Q122, Q123, Option.map_some, Option.map_none]
      · rw [List.append_assoc, List.append_assoc] at b5
        rw [if_neg (by decide)]
        exact b5
end Go.AE.YtgcbaefclkfnoaaDoor
end

/-! How many terms a term has: what Few tells of it. -/
section
set_option linter.unusedVariables false
set_option linter.unusedSimpArgs false
namespace Go.AE.YtgcbaefclkfnoaaDoor
open Go Go.AE Go.Proofs.YtgcbaefclkfnoaaDoor

mutual
def size : Tm → Nat
  | .mk _ _ _ l => 1 + sizeL l
def sizeL : List Tm → Nat
  | [] => 0
  | t :: l => size t + sizeL l
end
theorem size_pos (t : Tm) : 1 ≤ size t := by cases t; simp only [size]; omega
theorem sizeL_len : ∀ l : List Tm, l.length ≤ sizeL l
  | [] => Nat.le_refl _
  | t :: l => by
    have := sizeL_len l
    have := size_pos t
    simp only [sizeL, List.length_cons]; omega
theorem size_mem : ∀ {l : List Tm} {t : Tm}, t ∈ l → size t ≤ sizeL l
  | u :: l, t, h => by
    simp only [sizeL]
    rcases List.mem_cons.1 h with rfl | h
    · omega
    · have := size_mem h; omega
theorem wrap_pred {m : Int} (h0 : 0 ≤ m) (h1 : m ≤ 1000000) : IntKind.i64.wrap (m - 1) = m - 1 := by
  rw [IntWalk.i64_in]; omega
mutual
theorem left_size : ∀ (t : Tm) (m : Int), 0 ≤ m → m ≤ 1000000 → -1 ≤ fewT t m ∧ fewT t m ≤ m ∧ (0 ≤ fewT t m → fewT t m + size t = m)
  | .mk k s n l, m, h0, h1 => by
    rw [fewT, size, wrap_pred h0 h1]
    have := leftL_size l (m - 1) (by omega) (by omega)
    refine ⟨this.1, by omega, fun h => ?_⟩
    have := this.2.2 h
    omega
theorem leftL_size : ∀ (l : List Tm) (m : Int), -1 ≤ m → m ≤ 1000000 → -1 ≤ fewL l m ∧ fewL l m ≤ m ∧ (0 ≤ fewL l m → fewL l m + sizeL l = m)
  | [], m, h0, h1 => by simp only [fewL, sizeL]; omega
  | t :: l, m, h0, h1 => by
    simp only [fewL, sizeL]
    by_cases hm : m < 0
    · rw [if_pos hm]; omega
    · rw [if_neg hm]
      have a := left_size t m (by omega) h1
      have b := leftL_size l (fewT t m) (by omega) (by omega)
      refine ⟨b.1, by omega, fun h => ?_⟩
      have := b.2.2 h
      have := a.2.2 (by omega)
      omega
end
theorem big_size {ts : List Tm} (h : bigT ts = false) : ∀ t ∈ ts, size t ≤ 3000 := by
  intro t ht
  simp only [bigT, Bool.not_eq_false', List.all_eq_true] at h
  have h1 := h t ht
  simp only [fewB, decide_eq_true_eq, ge_iff_le] at h1
  have := (left_size t 3000 (by omega) (by omega)).2.2 h1
  omega
end Go.AE.YtgcbaefclkfnoaaDoor
end

/-! A term's text, walked: the program's. -/
section
set_option linter.unusedVariables false
set_option linter.unusedSimpArgs false
namespace Go.AE.YtgcbaefclkfnoaaDoor
open Go Go.AE Go.Proofs.YtgcbaefclkfnoaaDoor

theorem fmt_tab : (List.range 32).map (fun (c : Nat) => callN F 40 81 [.v (.int .i64 (c : Int)), .v (.int .i64 16)] []) = (List.range 32).map fun (c : Nat) => some (.v (.string ⟨(hexL c).toArray⟩), []) := by kernel_rfl
theorem hfmt (c : Nat) (h : c < 32) : callW F 81 [.v (.int .i64 (c : Int)), .v (.int .i64 16)] [] = some (.v (.string ⟨(hexL c).toArray⟩), []) :=
  callW_iff.2 ⟨40, List.map_inj_left.1 fmt_tab c (List.mem_range.2 h)⟩
/-! ### How long a text is -/
theorem writeL_len {s : ByteArray} (h : chkS s = true) : (writeL s).length ≤ 1277 := by
  have h255 : s.size ≤ 255 := by
    simp only [chkS, Bool.and_eq_true] at h
    have := of_decide_eq_true h.1
    omega
  unfold writeL
  split
  · have : (bl s).length = s.size := by simp only [bl, ByteArray.size, Array.length_toList]
    omega
  · have hfl : ∀ L : List Nat, (L.flatMap escL).length ≤ 5 * L.length := by
      intro L
      induction L with
      | nil => simp
      | cons c L ih =>
        have := escL_len c
        rw [List.flatMap_cons, List.length_append, List.length_cons]; omega
    have h1 := hfl (runesOf s)
    have h2 := rns_len s s.size 0
    rw [show rns s s.size 0 = runesOf s from rfl] at h2
    rw [List.length_cons, List.length_append]
    simp only [List.length_cons, List.length_nil]
    omega
theorem numT_len {n : Int} (h : rg n) : (bl (numT n)).length ≤ 21 := by
  have h1 := decD_20 (n := n.natAbs) (by unfold rg at h; omega)
  have e : bl (numT n) = (if decide (n < 0) = true then [45] else []) ++ decD n.natAbs := by simp only [bl, numT]
  rw [e, List.length_append]
  split <;> simp only [List.length_cons, List.length_nil] <;> omega
theorem headW_len {k n : Int} {s : ByteArray} {l : List Tm} (hm : mayT (.mk k s n l) = true) (hr : rg n) : (headW k s n).length ≤ 1300 := by
  have h1 := numT_len hr
  unfold headW
  cases h1 : (k == 1) with
  | true => rw [if_pos rfl, List.length_cons]; omega
  | false =>
    cases h3 : (k == 3) with
    | true => rw [if_neg (by simp), if_pos rfl]; omega
    | false =>
      rw [if_neg (by simp), if_neg (by simp)]
      have hck : chkS s = true := by
        rw [mayT, h1, h3] at hm
        cases h2 : (k == 2) <;> cases h4 : (k == 4) <;> simp [h2, h4] at hm <;> first | exact hm.2.2.2.1 | exact hm.2.2
      have := writeL_len hck
      omega
mutual
theorem wrT_len : ∀ t : Tm, mayT t = true → rgT t → (wrT t).length + 1 ≤ 1400 * size t
  | .mk k s n l, hm, hr => by
    have h1 := headW_len hm hr.1
    have h2 := wrL_len l (may_args hm) hr.2 40
    rw [wrT, size, List.length_append, List.length_append]
    split <;> simp only [List.length_cons, List.length_nil] <;> omega
theorem wrL_len : ∀ l : List Tm, mayL l = true → rgL l → ∀ c : UInt8, (wrL c l).length ≤ 1400 * sizeL l
  | [], _, _, c => by rw [wrL]; simp
  | a :: l, hm, hr, c => by
    rw [mayL, Bool.and_eq_true] at hm
    have h1 := wrT_len a hm.1 hr.1
    have h2 := wrL_len l hm.2 hr.2 44
    rw [wrL, sizeL, List.length_cons, List.length_append]
    omega
end
/-! ### Text -/
def textT (t : Tm) : ByteArray := if (checkT t == 0) = true then ⟨(wrT t).toArray⟩ else ⟨#[]⟩
theorem check_may' {t : Tm} (h : (checkT t == 0) = true) : mayT t = true := by
  unfold checkT at h
  cases hm : mayT t with
  | true => rfl
  | false => rw [hm] at h; simp at h
theorem wrT_ne (t : Tm) : wrT t ≠ [] := by
  cases t with
  | mk k s n l =>
    rw [wrT]
    intro h
    have h := (List.append_eq_nil_iff.1 h).1
    unfold headW at h
    split at h
    · exact absurd h (by simp)
    · split at h
      · exact num_pos n h
      · exact writeL_pos s h
theorem text_ok {t : Tm} {a : AV} (ha : IsT a t) (hr : rgT t) (hsz : size t ≤ 3000) : callW F 21 [a] [] = some (.tup [.v (.string (textT t)), .v (.int .i64 (checkT t))], []) := by
  refine callW_pure (c := c21) rfl rfl 0 ?_
  have hf := ha.facts
  have h1 := check_ok t a ha
  have e1 : Q76 [.box 24 a.cells] true 4 (.ptr 0 0) = some a := hf.2.2.2.1 [] 24
  unfold textT
  cases h2 : (checkT t == 0) with
  | false =>
    have l2 : ∀ h : List AO, lvf h (.tup [.v (.string ⟨#[]⟩), .v (.int .i64 (checkT t))]) = some (.tup [.v (.string ⟨#[]⟩), .v (.int .i64 (checkT t))], []) := fun _ => rfl
    simp only [c21, start, List.replicate, c21_0, c21_1, c21_2, c21_3, hf, e1, h1, h2, l2, Q0, Q1, Q2, Q3, Q4, Q5, Q6, Q7, Q8, Q9, Q10, Q11, Q12, Q13, Q14, Q15, Q16, Q17, Q18, Q19, Q20, Q21, Q22, Q23, Q24, Q25, Q26, Q27, Q28, Q29, Q30, Q31, Q32, Q33, Q35, Q36, Q37, Q38, Q39, Q40, Q41, Q42, Q43, Q44, Q45, Q46, Q47, Q48, Q49, Q50, Q51, Q52, Q53, Q54, Q55, Q56, Q57, Q58, Q59, Q60, Q61, Q62, Q63, Q64, Q65, Q66, Q67, Q68, Q69, Q70, Q71, Q72, Q73, Q99, Q100, Q101, Q102, Q103, Q74, Q75, Q77, Q78, Q79, Q80, Q81, Q82, Q83, Q84, clr, List.length_nil, List.length_cons, List.getElem?_cons_zero, List.getElem?_cons_succ, Nat.reduceAdd, Nat.zero_add, Nat.add_zero, Nat.reduceLeDiff, Nat.reduceSub, ↓reduceIte, List.drop_succ_cons, List.drop_zero, List.take_succ_cons, List.take_zero, Bool.false_eq_true, List.nil_append, List.cons_append, Bool.not_true, Bool.not_false, cond_true, cond_false, bne, Q85, Q86, Q87, Q88, Q89, Q90, Q91, Q92, Q93, Q94, Q95, Q96, Q97, Q98, Q110, Q111, Q116, Q117, Q118, Q119, Q120, Q121, Q122, Q123, Option.map_some, Option.map_none, Q34]
  | true =>
    have hm := check_may' h2
    have hz : checkT t = 0 := by simpa using h2
    rw [hz] at h1 ⊢
    have hbel : (AO.box 24 a.cells).below 3 = true := by
      have := ha.bel
      exact below_mono (Nat.zero_le _) _ this
    have hB0 : Bd [.box 24 a.cells, .box 61 [.v (.pointer none), .own 1 2 0 0 0], .row 5 1 0 [] 0] 1 2 [] := ⟨_, 0, .inl rfl, ⟨rfl, rfl⟩⟩
    have hb0 : ([.box 24 a.cells, .box 61 [.v (.pointer none), .own 1 2 0 0 0], .row 5 1 0 [] 0] : List AO).all (AO.below 3) = true := by
      simp only [List.all_cons, hbel, Bool.true_and]; rfl
    have hlen := wrT_len t hm hr
    obtain ⟨H1, d1, b1, r1, m1⟩ := write_ok hfmt _ t a _ 1 2 [] (Nat.lt_succ_self _) hm hr ha hB0 hb0 (by simp only [List.length_nil]; omega)
    rw [List.nil_append] at b1
    obtain ⟨H2, d2⟩ := b1.string (wrT_ne t) (by omega)
    generalize (⟨(wrT t).toArray⟩ : ByteArray) = W at d2
    have e2 : ∀ x y : AO, Q76 [.box 24 a.cells, x, y] true 4 (.ptr 0 0) = some a := fun x y => e1
    have bz : bx [.box 24 a.cells] 61 (some [.v (.pointer none), .v (.slice none 0 0)]) = some (.ptr 1 0, [.box 24 a.cells, .box 61 [.v (.pointer none), .v (.slice none 0 0)]]) := rfl
    have ba : bx [] 24 (some a.cells) = some (.ptr 0 0, [.box 24 a.cells]) := rfl
    have oz : (ofVal (.agg #[(.pointer none), (.slice none 0 0)])).cl = some [.v (.pointer none), .v (.slice none 0 0)] := by simp [ofVal, AV.cl, Value.oneCell']
    have mk : ∀ v0 v1 v2 v3 v4 v6 : AV, doMark ([v0, v1, v2, v3, v4, .ptr 1 0, v6], [.box 24 a.cells, .box 61 [.v (.pointer none), .v (.slice none 0 0)]]) (.ap 5 1 5 1) = ([v0, v1, v2, v3, v4, .ptr 1 0, v6], [.box 24 a.cells, .box 61 [.v (.pointer none), .own 1 2 0 0 0], .row 5 1 0 [] 0]) := fun _ _ _ _ _ _ => rfl
    have l2 : ∀ h : List AO, lvf h (.tup [.v (.string W), .v (.int .i64 0)]) = some (.tup [.v (.string W), .v (.int .i64 0)], []) := fun _ => rfl
    have z : ((0 : Int) == 0) = true := rfl
    have hfl := ha.cl.1
    have hsn := hf.2.1
    simp only [c21, start, List.replicate, c21_0, c21_1, c21_2, c21_4, c21_5, c21_6, hfl, hsn, ba, e1, e2, h1, z, oz, bz, x_region_m, List.foldl_cons, List.foldl_nil, mk, marked_eq, d1, d2, e_callh, List.map_cons, List.map_nil, l2, Q0, Q1, Q2, Q3, Q4, Q5, Q6, Q7, Q8, Q9, Q10, Q11, Q12, Q13, Q14, Q15, Q16, Q17, Q18, Q19, Q20, Q21, Q22, Q23, Q24, Q25, Q26, Q27, Q28, Q29, Q30, Q31, Q32, Q33, Q35, Q36, Q37, Q38, Q39, Q40, Q41, Q42, Q43, Q44, Q45, Q46, Q47, Q48, Q49, Q50, Q51, Q52, Q53, Q54, Q55, Q56, Q57, Q58, Q59, Q60, Q61, Q62, Q63, Q64, Q65, Q66, Q67, Q68, Q69, Q70, Q71, Q72, Q73, Q99, Q100, Q101, Q102, Q103, Q74, Q75, Q77, Q78, Q79, Q80, Q81, Q82, Q83, Q84, clr, List.length_nil, List.length_cons, List.getElem?_cons_zero, List.getElem?_cons_succ, Nat.reduceAdd, Nat.zero_add, Nat.add_zero, Nat.reduceLeDiff, Nat.reduceSub, ↓reduceIte, List.drop_succ_cons, List.drop_zero, List.take_succ_cons, List.take_zero, Bool.false_eq_true, List.nil_append, List.cons_append, Bool.not_true, Bool.not_false, cond_true, cond_false, bne, Q85, Q86, Q87, Q88, Q89, Q90, Q91, Q92, Q93, Q94, Q95, Q96, Q97, Q98, Q110, Q111, Q116, Q117, Q118, Q119, Q120, Q121, Q122, Q123, Option.map_some, Option.map_none]
end Go.AE.YtgcbaefclkfnoaaDoor
end

/-! The text tells the term (plain law): names, numbers. -/
section
set_option linter.unusedVariables false
set_option linter.unusedSimpArgs false
namespace Go.AE.YtgcbaefclkfnoaaDoor
open Go Go.AE Go.Proofs.YtgcbaefclkfnoaaDoor

/-! ### Bytes -/
theorem u8inj {a b : Nat} (ha : a < 256) (hb : b < 256) (h : UInt8.ofNat a = UInt8.ofNat b) : a = b := by
  have := congrArg UInt8.toNat h
  simpa [Nat.mod_eq_of_lt ha, Nat.mod_eq_of_lt hb] using this
theorem u8of (b : UInt8) : b = UInt8.ofNat b.toNat := by simp
def stopB (b : UInt8) : Bool := b == 39 || b == 40 || b == 41 || b == 44
def Sep (x : List UInt8) : Prop := x = [] ∨ ∃ b y, x = b :: y ∧ stopB b = true
def Pl (L : List UInt8) : Prop := ∀ b ∈ L, stopB b = false
theorem span_inj : ∀ {L L' x x' : List UInt8}, Pl L → Pl L' → Sep x → Sep x' → L ++ x = L' ++ x' → L = L' ∧ x = x'
  | [], [], x, x', _, _, _, _, e => ⟨rfl, e⟩
  | [], b :: L', x, x', _, h', h, _, e => by
    rcases h with rfl | ⟨c, y, rfl, hc⟩
    · exact absurd e (by simp)
    · rw [List.nil_append, List.cons_append, List.cons.injEq] at e
      have := h' b (by simp)
      rw [← e.1, hc] at this
      cases this
  | b :: L, [], x, x', h', _, _, h, e => by
    rcases h with rfl | ⟨c, y, rfl, hc⟩
    · exact absurd e (by simp)
    · rw [List.nil_append, List.cons_append, List.cons.injEq] at e
      have := h' b (by simp)
      rw [e.1, hc] at this
      cases this
  | b :: L, b' :: L', x, x', h, h', hx, hx', e => by
    rw [List.cons_append, List.cons_append, List.cons.injEq] at e
    have := span_inj (fun c hc => h c (by simp [hc])) (fun c hc => h' c (by simp [hc])) hx hx' e.2
    exact ⟨by rw [e.1, this.1], this.2⟩
/-! ### Numbers -/
def valD (l : List UInt8) : Nat := l.foldl (fun a b => 10 * a + (b.toNat - 48)) 0
theorem dg_nat (n : Nat) : (dg n).toNat = 48 + n % 10 := by
  unfold dg
  rw [UInt8.toNat_ofNat']
  omega
theorem val_dec : ∀ (N n : Nat), n < N → valD (decD n) = n := by
  intro N
  induction N with
  | zero => intro n h; omega
  | succ N ih =>
    intro n h
    by_cases h10 : n < 10
    · rw [decD_small h10]
      simp only [valD, List.foldl_cons, List.foldl_nil, dg_nat]
      omega
    · rw [decD_big h10]
      have := ih (n / 10) (by omega)
      unfold valD at this ⊢
      rw [List.foldl_append, this]
      simp only [List.foldl_cons, List.foldl_nil, dg_nat]
      omega
theorem decD_inj {n m : Nat} (h : decD n = decD m) : n = m := by
  rw [← val_dec _ n (Nat.lt_succ_self _), ← val_dec _ m (Nat.lt_succ_self _), h]
theorem decD_dig : ∀ (N n : Nat), n < N → ∀ b ∈ decD n, 48 ≤ b.toNat ∧ b.toNat ≤ 57 := by
  intro N
  induction N with
  | zero => intro n h; omega
  | succ N ih =>
    intro n h b hb
    by_cases h10 : n < 10
    · rw [decD_small h10] at hb
      simp only [List.mem_singleton] at hb
      subst hb
      rw [dg_nat]; omega
    · rw [decD_big h10] at hb
      rcases List.mem_append.1 hb with h1 | h1
      · exact ih (n / 10) (by omega) b h1
      · simp only [List.mem_singleton] at h1
        subst h1
        rw [dg_nat]; omega
theorem decD_digs {n : Nat} {b : UInt8} (h : b ∈ decD n) : 48 ≤ b.toNat ∧ b.toNat ≤ 57 := decD_dig _ n (Nat.lt_succ_self _) b h
theorem bl_num (n : Int) : bl (numT n) = (if decide (n < 0) = true then [45] else []) ++ decD n.natAbs := by simp only [bl, numT]
theorem decD_head (n : Nat) : ∃ b y, decD n = b :: y ∧ 48 ≤ b.toNat ∧ b.toNat ≤ 57 := by
  cases h : decD n with
  | nil => have := decD_pos n; rw [h] at this; simp at this
  | cons b y => exact ⟨b, y, rfl, decD_digs (n := n) (by rw [h]; simp)⟩
theorem num_shape (n : Int) : (n < 0 ∧ bl (numT n) = 45 :: decD n.natAbs) ∨ (0 ≤ n ∧ bl (numT n) = decD n.natAbs) := by
  rw [bl_num]
  by_cases h : n < 0
  · left; refine ⟨h, ?_⟩; rw [decide_eq_true h]; rfl
  · right; refine ⟨by omega, ?_⟩; rw [decide_eq_false h]; rfl
theorem num_inj {n m : Int} (h : bl (numT n) = bl (numT m)) : n = m := by
  rcases num_shape n with ⟨h1, e1⟩ | ⟨h1, e1⟩ <;> rcases num_shape m with ⟨h2, e2⟩ | ⟨h2, e2⟩ <;> rw [e1, e2] at h
  · have := decD_inj (List.cons.inj h).2
    omega
  · obtain ⟨b, y, e, hb⟩ := decD_head m.natAbs
    rw [e] at h
    have := (List.cons.inj h).1
    rw [← this] at hb
    exact absurd hb.1 (by decide)
  · obtain ⟨b, y, e, hb⟩ := decD_head n.natAbs
    rw [e] at h
    have := (List.cons.inj h).1
    rw [this] at hb
    exact absurd hb.1 (by decide)
  · have := decD_inj h
    omega
theorem stop_dig {b : UInt8} (h : 48 ≤ b.toNat ∧ b.toNat ≤ 57) : stopB b = false := by
  have h1 : b ≠ 39 := by rintro rfl; exact absurd h.1 (by decide)
  have h2 : b ≠ 40 := by rintro rfl; exact absurd h.1 (by decide)
  have h3 : b ≠ 41 := by rintro rfl; exact absurd h.1 (by decide)
  have h4 : b ≠ 44 := by rintro rfl; exact absurd h.1 (by decide)
  simp [stopB, h1, h2, h3, h4]
theorem num_pl (n : Int) : Pl (bl (numT n)) := by
  intro b hb
  rcases num_shape n with ⟨h1, e1⟩ | ⟨h1, e1⟩ <;> rw [e1] at hb
  · rcases List.mem_cons.1 hb with rfl | hb
    · rfl
    · exact stop_dig (decD_digs hb)
  · exact stop_dig (decD_digs hb)
/-! ### Runes -/
theorem rns_bytes (s : ByteArray) : ∀ (f p : Nat), s.size - p ≤ f → Lib.validD (s.data.toList.drop p) = true → (rns s f p).flatMap (fun c : Nat => Lib.encodeRune (c : Int)) = s.data.toList.drop p := by
  intro f
  induction f with
  | zero =>
    intro p hf _
    have : s.data.toList.drop p = [] := List.drop_of_length_le (by rw [Array.length_toList]; have : s.data.size = s.size := rfl; omega)
    rw [this, rns]; rfl
  | succ f ih =>
    intro p hf hv
    by_cases hp : p < s.size
    · have hne : s.data.toList.drop p ≠ [] := by
        intro e
        have := congrArg List.length e
        rw [List.length_drop, Array.length_toList, List.length_nil] at this
        have : s.data.size = s.size := rfl
        omega
      rw [Lib.validD_step _ hne] at hv
      have hv1 : ¬ ((Lib.decodeL (s.data.toList.drop p)).1 = 65533 ∧ (Lib.decodeL (s.data.toList.drop p)).2 = 1) := by
        intro h
        rw [if_pos h] at hv
        cases hv
      rw [if_neg hv1, List.drop_drop] at hv
      have h1 := Lib.encode_decode _ hne hv1
      rw [Lib.decodeL_drop] at h1 hv
      have hw := width_pos s p
      rw [rns_cons hp, List.flatMap_cons, h1, ih (p + (Utf8.decode s p).2) (by omega) hv, ← List.drop_drop, List.take_append_drop]
    · have : s.data.toList.drop p = [] := List.drop_of_length_le (by rw [Array.length_toList]; have : s.data.size = s.size := rfl; omega)
      rw [this, rns_nil hp]; rfl
theorem runes_bytes {s : ByteArray} (hv : Lib.validD s.data.toList = true) : (runesOf s).flatMap (fun c : Nat => Lib.encodeRune (c : Int)) = bl s := by
  have := rns_bytes s s.size 0 (by omega) (by rw [List.drop_zero]; exact hv)
  rw [List.drop_zero] at this
  exact this
theorem runes_inj {s s' : ByteArray} (hv : Lib.validD s.data.toList = true) (hv' : Lib.validD s'.data.toList = true) (h : runesOf s = runesOf s') : s = s' := by
  rw [bl_eta s, bl_eta s', ← runes_bytes hv, ← runes_bytes hv', h]
theorem rns_valid (s : ByteArray) : ∀ (f p : Nat), ∀ c ∈ rns s f p, Utf8.valid (c : Int) = true := by
  intro f
  induction f with
  | zero => intro p c hc; rw [rns] at hc; cases hc
  | succ f ih =>
    intro p c hc
    rw [rns] at hc
    split at hc
    · rcases List.mem_cons.1 hc with rfl | hc
      · exact dec_valid s p
      · exact ih _ _ hc
    · cases hc
/-! ### Names without quotes -/
theorem okR_cls {f k : Int} (h : okR f k = true) : 1 ≤ k ∧ k ≤ 4 ∧ (f = 1 ∨ f = 4) ∧ (f = 4 → k = 4) := by
  unfold okR at h
  split at h
  · rename_i h1
    simp only [beq_iff_eq] at h1
    simp only [Bool.not_eq_true', Bool.or_eq_false_iff, decide_eq_false_iff_not] at h
    omega
  · split at h
    · rename_i h1
      simp only [beq_iff_eq] at h1 h
      omega
    · cases h
theorem cls_small {c : Nat} (h : 1 ≤ clsN c) : c < 128 := by
  by_cases hc : c < 128
  · exact hc
  · rw [cls_far hc] at h; omega
theorem enc_small {c : Nat} (h : c < 128) : Lib.encodeRune (c : Int) = [UInt8.ofNat c] := by
  unfold Lib.encodeRune
  rw [Lib.encodeRuneZ_one (by omega) (by omega)]
  simp
theorem flat_small : ∀ (R : List Nat), (∀ c ∈ R, c < 128) → R.flatMap (fun c : Nat => Lib.encodeRune (c : Int)) = R.map UInt8.ofNat
  | [], _ => rfl
  | c :: R, h => by
    rw [List.flatMap_cons, enc_small (h c (by simp)), flat_small R (fun d hd => h d (by simp [hd]))]
    rfl
def BareL (L : List UInt8) : Prop := L = [91, 93] ∨ L = [123, 125] ∨ L = [33] ∨ L = [59] ∨ ∃ (f : Int) (c : Nat) (R : List Nat), L = (c :: R).map UInt8.ofNat ∧ clsN c = f ∧ ∀ d ∈ c :: R, d < 128 ∧ okR f (clsN d) = true
theorem bare_shape {s : ByteArray} (hv : Lib.validD s.data.toList = true) (h : bareS s = true) : BareL (bl s) := by
  have eq : ∀ l : List UInt8, eqS s l = true → bl s = l := by
    intro l e
    unfold eqS at e
    have := eq_of_beq e
    have h2 : s.data.toList = l := by
      have e1 : s.toList = s.data.toList := Lib.toList_data s
      have e2 : (⟨l.toArray⟩ : ByteArray).toList = l := by rw [Lib.toList_data]
      rw [← e1, this, e2]
    exact h2
  unfold bareS at h
  split at h
  · rename_i h1
    simp only [Bool.or_eq_true] at h1
    rcases h1 with h1 | h1 | h1 | h1
    · exact .inl (eq _ h1)
    · exact .inr (.inl (eq _ h1))
    · exact .inr (.inr (.inl (eq _ h1)))
    · exact .inr (.inr (.inr (.inl (eq _ h1))))
  · split at h
    · cases h
    · rename_i h2
      split at h
      · cases h
      · rw [List.all_eq_true] at h
        refine .inr (.inr (.inr (.inr ?_)))
        have hR := runes_bytes hv
        cases hr : runesOf s with
        | nil =>
          exfalso
          rw [hr] at hR
          have : eqS s [] = true := by
            unfold eqS
            rw [Lib.toList_data, Lib.toList_data]
            show (bl s == []) = true
            rw [← hR]; rfl
          rw [this] at h2
          exact h2 rfl
        | cons c R =>
          rw [hr] at h hR
          have h0 : clsN c = firstC s := by
            unfold firstC
            have : runesOf s = rns s s.size 0 := rfl
            rw [hr] at this
            cases hz : s.size with
            | zero => rw [hz, rns] at this; cases this
            | succ m =>
              rw [hz, rns_cons (by omega)] at this
              rw [(List.cons.inj this).1]
          have hs : ∀ d ∈ c :: R, d < 128 := fun d hd => cls_small (okR_cls (h d hd)).1
          refine ⟨firstC s, c, R, ?_, h0, fun d hd => ⟨hs d hd, h d hd⟩⟩
          rw [← hR, flat_small _ hs]
theorem cls_tab2 : (List.range 128).all (fun c => !(decide (1 ≤ clsN c) && decide (clsN c ≤ 4)) || !stopB (UInt8.ofNat c)) = true := by kernel_rfl
theorem bare_pl {L : List UInt8} (h : BareL L) : Pl L := by
  rcases h with rfl | rfl | rfl | rfl | ⟨f, c, R, rfl, h0, h1⟩
  · intro b hb; revert b; decide
  · intro b hb; revert b; decide
  · intro b hb; revert b; decide
  · intro b hb; revert b; decide
  · intro b hb
    obtain ⟨d, hd, rfl⟩ := List.mem_map.1 hb
    obtain ⟨h2, h3⟩ := h1 d hd
    have h4 := okR_cls h3
    have := List.all_eq_true.1 cls_tab2 d (List.mem_range.2 h2)
    rw [decide_eq_true h4.1, decide_eq_true h4.2.1] at this
    simpa using this
theorem cls_tab3 : clsN 95 = 2 ∧ clsN 45 = 4 ∧ (List.range 128).all (fun c => !(decide (48 ≤ c) && decide (c ≤ 57)) || clsN c == 3) = true := by refine ⟨by kernel_rfl, by kernel_rfl, by kernel_rfl⟩
theorem cls_dig {c : Nat} (h : 48 ≤ c ∧ c ≤ 57) : clsN c = 3 := by
  have := List.all_eq_true.1 cls_tab3.2.2 c (List.mem_range.2 (by omega))
  rw [decide_eq_true h.1, decide_eq_true h.2] at this
  simpa using this
theorem bare_head {L : List UInt8} (h : BareL L) : L ≠ [] ∧ (∀ y, L ≠ 95 :: y) ∧ (∀ b y, L = b :: y → ¬ (48 ≤ b.toNat ∧ b.toNat ≤ 57)) ∧ (∀ b y, L = 45 :: b :: y → ¬ (48 ≤ b.toNat ∧ b.toNat ≤ 57)) := by
  rcases h with rfl | rfl | rfl | rfl | ⟨f, c, R, rfl, h0, h1⟩
  · exact ⟨by simp, by simp, fun b y e => by rw [← (List.cons.inj e).1]; decide, fun b y e => by simp at e⟩
  · exact ⟨by simp, by simp, fun b y e => by rw [← (List.cons.inj e).1]; decide, fun b y e => by simp at e⟩
  · exact ⟨by simp, by simp, fun b y e => by rw [← (List.cons.inj e).1]; decide, fun b y e => by simp at e⟩
  · exact ⟨by simp, by simp, fun b y e => by rw [← (List.cons.inj e).1]; decide, fun b y e => by simp at e⟩
  · have h2 := h1 c (by simp)
    have h3 := okR_cls h2.2
    have key : ∀ {m : Nat}, m < 256 → UInt8.ofNat c = UInt8.ofNat m → c = m := fun hm e => u8inj (by omega) hm e
    refine ⟨by simp, fun y e => ?_, fun b y e hb => ?_, fun b y e hb => ?_⟩
    · rw [List.map_cons] at e
      have := key (m := 95) (by omega) (List.cons.inj e).1
      subst this
      rw [cls_tab3.1] at h0
      omega
    · rw [List.map_cons] at e
      have e1 := (List.cons.inj e).1
      rw [← e1, UInt8.toNat_ofNat', Nat.mod_eq_of_lt (by omega)] at hb
      have := cls_dig hb
      omega
    · rw [List.map_cons] at e
      have := key (m := 45) (by omega) (List.cons.inj e).1
      subst this
      rw [cls_tab3.2.1] at h0
      cases R with
      | nil => exact absurd (List.cons.inj e).2 (by simp)
      | cons d R =>
        have e2 := (List.cons.inj (List.cons.inj e).2).1
        have h4 := h1 d (by simp)
        rw [← e2, UInt8.toNat_ofNat', Nat.mod_eq_of_lt (by omega)] at hb
        have := cls_dig hb
        have h5 := okR_cls h4.2
        have := h5.2.2.2 h0.symm
        omega
end Go.AE.YtgcbaefclkfnoaaDoor
end

/-! The text tells the term (plain law): names in quotes, terms. -/
section
set_option linter.unusedVariables false
set_option linter.unusedSimpArgs false
namespace Go.AE.YtgcbaefclkfnoaaDoor
open Go Go.AE Go.Proofs.YtgcbaefclkfnoaaDoor

/-! ### Runes' bytes -/
theorem enc_form {c : Nat} (hv : Utf8.valid (c : Int) = true) : (c < 128 ∧ encL c = [UInt8.ofNat c]) ∨ (128 ≤ c ∧ c < 2048 ∧ encL c = [UInt8.ofNat (192 + c / 64), UInt8.ofNat (128 + c % 64)]) ∨
    (2048 ≤ c ∧ c < 65536 ∧ encL c = [UInt8.ofNat (224 + c / 4096), UInt8.ofNat (128 + c / 64 % 64), UInt8.ofNat (128 + c % 64)]) ∨
    (65536 ≤ c ∧ c ≤ 1114111 ∧ encL c = [UInt8.ofNat (240 + c / 262144), UInt8.ofNat (128 + c / 4096 % 64), UInt8.ofNat (128 + c / 64 % 64), UInt8.ofNat (128 + c % 64)]) := by
  have hva := valid_at hv
  by_cases h1 : c < 128
  · exact .inl ⟨h1, enc1 hv h1⟩
  · by_cases h2 : c < 2048
    · exact .inr (.inl ⟨by omega, h2, enc2 hv h1 h2⟩)
    · by_cases h3 : c < 65536
      · exact .inr (.inr (.inl ⟨by omega, h3, enc3 hv h1 h2 h3⟩))
      · exact .inr (.inr (.inr ⟨by omega, by omega, enc4 hv h1 h2 h3⟩))
theorem enc_pre {c c' : Nat} (hv : Utf8.valid (c : Int) = true) (hv' : Utf8.valid (c' : Int) = true) {y y' : List UInt8} (e : encL c ++ y = encL c' ++ y') : c = c' ∧ y = y' := by
  rcases enc_form hv with ⟨a1, a⟩ | ⟨a0, a1, a⟩ | ⟨a0, a1, a⟩ | ⟨a0, a1, a⟩ <;> rcases enc_form hv' with ⟨b1, b⟩ | ⟨b0, b1, b⟩ | ⟨b0, b1, b⟩ | ⟨b0, b1, b⟩ <;>
    (rw [a, b] at e
     simp only [List.cons_append, List.nil_append, List.cons.injEq] at e
     have e1 := u8inj (by omega) (by omega) e.1
     first
      | omega
      | (have e2 := u8inj (by omega) (by omega) e.2.1
         first
          | (exact ⟨by omega, e.2.2⟩)
          | (have e3 := u8inj (by omega) (by omega) e.2.2.1
             first
              | (exact ⟨by omega, e.2.2.2⟩)
              | (have e4 := u8inj (by omega) (by omega) e.2.2.2.1
                 exact ⟨by omega, e.2.2.2.2⟩)))
      | (exact ⟨by omega, e.2⟩))
def self (c : Nat) : Bool := !(((c : Int) == 39 || (c : Int) == 92) || ((c : Int) == 10) || ((c : Int) == 9) || decide ((c : Int) < 32))
theorem esc_self {c : Nat} (h : self c = true) : escL c = encL c ∧ 32 ≤ c ∧ c ≠ 39 ∧ c ≠ 92 := by
  unfold self at h
  simp only [Bool.not_eq_true', Bool.or_eq_false_iff] at h
  obtain ⟨⟨⟨⟨h1, h2⟩, h3⟩, h4⟩, h5⟩ := h
  have h5' : ¬ ((c : Int) < 32) := of_decide_eq_false h5
  refine ⟨?_, by omega, ?_, ?_⟩
  · unfold escL escH
    rw [h1, h2, h3, h4, h5]; rfl
  · rintro rfl; exact absurd h1 (by decide)
  · rintro rfl; exact absurd h2 (by decide)
def escs : List Nat := 39 :: 92 :: List.range 32
theorem esc_other {c : Nat} (h : self c = false) : c ∈ escs := by
  unfold self at h
  simp only [Bool.not_eq_false', Bool.or_eq_true, beq_iff_eq, decide_eq_true_eq] at h
  simp only [escs, List.mem_cons, List.mem_range]
  omega
theorem escs_tab : (escs.all fun c => (match escL c with | b :: _ => b == 92 | [] => false) && escs.all fun d => c == d || !((escL c).isPrefixOf (escL d)) && !((escL d).isPrefixOf (escL c))) = true := by kernel_rfl
theorem pre_of : ∀ {L L' y y' : List UInt8}, L ++ y = L' ++ y' → L.isPrefixOf L' = true ∨ L'.isPrefixOf L = true
  | [], L', _, _, _ => .inl (by simp)
  | b :: L, [], _, _, _ => .inr (by simp)
  | b :: L, b' :: L', y, y', e => by
    rw [List.cons_append, List.cons_append, List.cons.injEq] at e
    rcases pre_of e.2 with h | h
    · left; simp [List.isPrefixOf, e.1, h]
    · right; simp [List.isPrefixOf, e.1, h]
theorem enc_head {c : Nat} (hv : Utf8.valid (c : Int) = true) (h0 : 32 ≤ c) (h1 : c ≠ 39) (h2 : c ≠ 92) : ∃ b y, encL c = b :: y ∧ b ≠ 39 ∧ b ≠ 92 := by
  have k : ∀ {m n : Nat}, m < 256 → n < 256 → m ≠ n → UInt8.ofNat m ≠ UInt8.ofNat n := fun hm hn h e => h (u8inj hm hn e)
  rcases enc_form hv with ⟨a1, a⟩ | ⟨a0, a1, a⟩ | ⟨a0, a1, a⟩ | ⟨a0, a1, a⟩
  · exact ⟨_, _, a, k (n := 39) (by omega) (by omega) (by omega), k (n := 92) (by omega) (by omega) (by omega)⟩
  · exact ⟨_, _, a, k (n := 39) (by omega) (by omega) (by omega), k (n := 92) (by omega) (by omega) (by omega)⟩
  · exact ⟨_, _, a, k (n := 39) (by omega) (by omega) (by omega), k (n := 92) (by omega) (by omega) (by omega)⟩
  · exact ⟨_, _, a, k (n := 39) (by omega) (by omega) (by omega), k (n := 92) (by omega) (by omega) (by omega)⟩
theorem other_head {c : Nat} (h : c ∈ escs) : ∃ y, escL c = 92 :: y := by
  have := List.all_eq_true.1 escs_tab c h
  simp only [Bool.and_eq_true] at this
  have := this.1
  split at this
  · rename_i b y e
    simp only [beq_iff_eq] at this
    exact ⟨y, by rw [e, this]⟩
  · cases this
theorem esc_head {c : Nat} (hv : Utf8.valid (c : Int) = true) : ∃ b y, escL c = b :: y ∧ b ≠ 39 := by
  cases h : self c with
  | true =>
    obtain ⟨e, h0, h1, h2⟩ := esc_self h
    obtain ⟨b, y, e2, h3, _⟩ := enc_head hv h0 h1 h2
    exact ⟨b, y, by rw [e, e2], h3⟩
  | false =>
    obtain ⟨y, e⟩ := other_head (esc_other h)
    exact ⟨92, y, e, by decide⟩
theorem esc_pre {c c' : Nat} (hv : Utf8.valid (c : Int) = true) (hv' : Utf8.valid (c' : Int) = true) {y y' : List UInt8} (e : escL c ++ y = escL c' ++ y') : c = c' ∧ y = y' := by
  cases h : self c with
  | true =>
    obtain ⟨e1, h0, h1, h2⟩ := esc_self h
    cases h' : self c' with
    | true =>
      obtain ⟨e1', _⟩ := esc_self h'
      rw [e1, e1'] at e
      exact enc_pre hv hv' e
    | false =>
      obtain ⟨z, e3⟩ := other_head (esc_other h')
      obtain ⟨b, w, e2, _, h3⟩ := enc_head hv h0 h1 h2
      rw [e1, e2, e3, List.cons_append, List.cons_append] at e
      exact absurd (List.cons.inj e).1 h3
  | false =>
    have ho := esc_other h
    cases h' : self c' with
    | true =>
      obtain ⟨e1, h0, h1, h2⟩ := esc_self h'
      obtain ⟨z, e3⟩ := other_head ho
      obtain ⟨b, w, e2, _, h3⟩ := enc_head hv' h0 h1 h2
      rw [e1, e2, e3, List.cons_append, List.cons_append] at e
      exact absurd (List.cons.inj e).1.symm h3
    | false =>
      have ho' := esc_other h'
      have t := List.all_eq_true.1 escs_tab c ho
      simp only [Bool.and_eq_true] at t
      have t := List.all_eq_true.1 t.2 c' ho'
      simp only [Bool.or_eq_true, beq_iff_eq, Bool.and_eq_true, Bool.not_eq_true'] at t
      rcases t with rfl | ⟨t1, t2⟩
      · exact ⟨rfl, List.append_cancel_left e⟩
      · rcases pre_of e with h | h
        · rw [t1] at h; cases h
        · rw [t2] at h; cases h
theorem escs_inj : ∀ {R R' : List Nat} {x x' : List UInt8}, (∀ c ∈ R, Utf8.valid (c : Int) = true) → (∀ c ∈ R', Utf8.valid (c : Int) = true) → R.flatMap escL ++ 39 :: x = R'.flatMap escL ++ 39 :: x' → R = R' ∧ x = x'
  | [], [], x, x', _, _, e => ⟨rfl, (List.cons.inj e).2⟩
  | [], c :: R', x, x', _, h', e => by
    obtain ⟨b, y, e2, h3⟩ := esc_head (h' c (by simp))
    rw [List.flatMap_cons, e2] at e
    exact absurd (List.cons.inj e).1.symm h3
  | c :: R, [], x, x', h, _, e => by
    obtain ⟨b, y, e2, h3⟩ := esc_head (h c (by simp))
    rw [List.flatMap_cons, e2] at e
    exact absurd (List.cons.inj e).1 h3
  | c :: R, c' :: R', x, x', h, h', e => by
    rw [List.flatMap_cons, List.flatMap_cons, List.append_assoc, List.append_assoc] at e
    obtain ⟨rfl, e2⟩ := esc_pre (h c (by simp)) (h' c' (by simp)) e
    obtain ⟨rfl, e3⟩ := escs_inj (fun d hd => h d (by simp [hd])) (fun d hd => h' d (by simp [hd])) e2
    exact ⟨rfl, e3⟩
/-! ### Heads -/
theorem write_shape {s : ByteArray} (hc : chkS s = true) : (bareS s = true ∧ writeL s = bl s ∧ BareL (bl s)) ∨ (bareS s = false ∧ writeL s = 39 :: ((runesOf s).flatMap escL ++ [39])) := by
  have hv : Lib.validD s.data.toList = true := by
    simp only [chkS, Bool.and_eq_true] at hc; exact hc.2
  cases h : bareS s with
  | true => exact .inl ⟨rfl, by rw [writeL, if_pos h], bare_shape hv h⟩
  | false => exact .inr ⟨rfl, by rw [writeL, if_neg (by rw [h]; decide)]⟩
theorem pl_no39 {L : List UInt8} (h : Pl L) (y : List UInt8) : L ≠ 39 :: y := by
  rintro rfl
  exact absurd (h 39 (by simp)) (by decide)
theorem bl_inj {s s' : ByteArray} (h : bl s = bl s') : s = s' := by rw [bl_eta s, bl_eta s', h]
theorem write_inj {s s' : ByteArray} (hc : chkS s = true) (hc' : chkS s' = true) {x x' : List UInt8} (hx : Sep x) (hx' : Sep x') (e : writeL s ++ x = writeL s' ++ x') : s = s' ∧ x = x' := by
  have hv : Lib.validD s.data.toList = true := by simp only [chkS, Bool.and_eq_true] at hc; exact hc.2
  have hv' : Lib.validD s'.data.toList = true := by simp only [chkS, Bool.and_eq_true] at hc'; exact hc'.2
  rcases write_shape hc with ⟨_, e1, b1⟩ | ⟨_, e1⟩ <;> rcases write_shape hc' with ⟨_, e2, b2⟩ | ⟨_, e2⟩ <;> rw [e1, e2] at e
  · obtain ⟨h1, h2⟩ := span_inj (bare_pl b1) (bare_pl b2) hx hx' e
    exact ⟨bl_inj h1, h2⟩
  · obtain ⟨hne, _⟩ := bare_head b1
    cases hl : bl s with
    | nil => exact absurd hl hne
    | cons b y =>
      rw [hl, List.cons_append, List.cons_append] at e
      exact absurd hl (by rw [(List.cons.inj e).1]; exact fun h => pl_no39 (bare_pl b1) y h)
  · obtain ⟨hne, _⟩ := bare_head b2
    cases hl : bl s' with
    | nil => exact absurd hl hne
    | cons b y =>
      rw [hl, List.cons_append, List.cons_append] at e
      exact absurd hl (by rw [← (List.cons.inj e).1]; exact fun h => pl_no39 (bare_pl b2) y h)
  · rw [List.cons_append, List.cons_append, List.append_assoc, List.append_assoc] at e
    obtain ⟨h1, h2⟩ := escs_inj (rns_valid s _ _) (rns_valid s' _ _) (List.cons.inj e).2
    exact ⟨runes_inj hv hv' h1, h2⟩
theorem name_var {s : ByteArray} (hc : chkS s = true) {n : Int} {x x' : List UInt8} : writeL s ++ x ≠ 95 :: bl (numT n) ++ x' := by
  intro e
  rcases write_shape hc with ⟨_, e1, b1⟩ | ⟨_, e1⟩ <;> rw [e1] at e
  · obtain ⟨hne, h1, _⟩ := bare_head b1
    cases hl : bl s with
    | nil => exact hne hl
    | cons b y =>
      rw [hl, List.cons_append, List.cons_append] at e
      exact h1 y (by rw [hl, (List.cons.inj e).1])
  · rw [List.cons_append, List.cons_append] at e
    exact absurd (List.cons.inj e).1 (by decide)
theorem name_num {s : ByteArray} (hc : chkS s = true) {n : Int} {x x' : List UInt8} (hx : Sep x) (hx' : Sep x') : writeL s ++ x ≠ bl (numT n) ++ x' := by
  intro e
  rcases write_shape hc with ⟨_, e1, b1⟩ | ⟨_, e1⟩ <;> rw [e1] at e
  · obtain ⟨hne, _, h2, h3⟩ := bare_head b1
    obtain ⟨h4, _⟩ := span_inj (bare_pl b1) (num_pl n) hx hx' e
    obtain ⟨b, y, hd, hb⟩ := decD_head n.natAbs
    rcases num_shape n with ⟨_, hn⟩ | ⟨_, hn⟩ <;> rw [hn, hd] at h4
    · exact h3 b y h4 hb
    · exact h2 b y h4 hb
  · have hp := num_pl n
    have hpos := num_pos n
    cases hl : bl (numT n) with
    | nil => exact hpos hl
    | cons b y =>
      rw [hl, List.cons_append, List.cons_append] at e
      rw [hl, ← (List.cons.inj e).1] at hp
      exact pl_no39 hp y rfl
theorem var_num {n m : Int} {x x' : List UInt8} : 95 :: bl (numT n) ++ x ≠ bl (numT m) ++ x' := by
  intro e
  obtain ⟨b, y, hd, hb⟩ := decD_head m.natAbs
  rcases num_shape m with ⟨_, hn⟩ | ⟨_, hn⟩ <;> rw [hn] at e
  · rw [List.cons_append, List.cons_append] at e
    exact absurd (List.cons.inj e).1 (by decide)
  · rw [hd, List.cons_append, List.cons_append] at e
    rw [← (List.cons.inj e).1] at hb
    exact absurd hb.2 (by decide)
/-! ### Terms -/
theorem may_kinds {k n : Int} {s : ByteArray} {l : List Tm} (h : mayT (.mk k s n l) = true) : (k = 1 ∧ l = [] ∧ s = ⟨#[]⟩) ∨ (k = 3 ∧ l = [] ∧ s = ⟨#[]⟩) ∨ (k = 2 ∧ l = [] ∧ n = 0 ∧ chkS s = true) ∨ (k = 4 ∧ l ≠ [] ∧ n = 0 ∧ chkS s = true ∧ mayL l = true) := by
  have no : ∀ {s : ByteArray}, noS s = true → s = ⟨#[]⟩ := by
    intro s h
    unfold noS at h
    have := eq_of_beq h
    rw [Lib.toList_data, Lib.toList_data] at this
    exact bl_inj this
  have nil : ∀ {l : List Tm}, (((l.length : Int) == 0)) = true → l = [] := by
    intro l h; simpa using h
  rw [mayT] at h
  cases h1 : (k == 1) with
  | true =>
    rw [h1, if_pos rfl] at h
    simp only [Bool.and_eq_true] at h
    exact .inl ⟨by simpa using h1, nil h.1, no h.2.1⟩
  | false =>
  cases h2 : (k == 2) with
  | true =>
    rw [h1, h2, if_neg (by decide), if_pos rfl] at h
    simp only [Bool.and_eq_true, beq_iff_eq] at h
    exact .inr (.inr (.inl ⟨by simpa using h2, nil (by simpa using h.1), h.2.1, h.2.2⟩))
  | false =>
  cases h3 : (k == 3) with
  | true =>
    rw [h1, h2, h3, if_neg (by decide), if_neg (by decide), if_pos rfl] at h
    simp only [Bool.and_eq_true] at h
    exact .inr (.inl ⟨by simpa using h3, nil h.1, no h.2⟩)
  | false =>
  cases h4 : (k == 4) with
  | true =>
    rw [h1, h2, h3, h4, if_neg (by decide), if_neg (by decide), if_neg (by decide), if_pos rfl] at h
    simp only [Bool.and_eq_true, beq_iff_eq, Bool.not_eq_true'] at h
    refine .inr (.inr (.inr ⟨by simpa using h4, ?_, h.2.1, h.2.2.2.1, h.2.2.2.2⟩))
    rintro rfl
    simp at h
  | false => rw [h1, h2, h3, h4] at h; simp at h
def End (x : List UInt8) : Prop := x = [] ∨ ∃ b y, x = b :: y ∧ (b = 41 ∨ b = 44)
theorem End.sep {x : List UInt8} (h : End x) : Sep x := by
  rcases h with rfl | ⟨b, y, rfl, rfl | rfl⟩
  · exact .inl rfl
  · exact .inr ⟨_, _, rfl, rfl⟩
  · exact .inr ⟨_, _, rfl, rfl⟩
theorem wr_inj : ∀ (N : Nat) (t u : Tm), SizeOf.sizeOf t < N → mayT t = true → mayT u = true → ∀ x x' : List UInt8, End x → End x' → wrT t ++ x = wrT u ++ x' → t = u ∧ x = x' := by
  intro N
  induction N with
  | zero => intro t u h; omega
  | succ N ih =>
    intro t u hN ht hu x x' hx hx' e
    cases t with
    | mk k s n l =>
    cases u with
    | mk k' s' n' l' =>
    -- lists, from a comma on
    have lists : ∀ (m m' : List Tm), (∀ a ∈ m, SizeOf.sizeOf a < N ∧ mayT a = true) → (∀ a ∈ m', mayT a = true) → ∀ z z' : List UInt8, wrL 44 m ++ 41 :: z = wrL 44 m' ++ 41 :: z' → m = m' ∧ z = z' := by
      intro m
      induction m with
      | nil =>
        intro m' _ _ z z' e
        cases m' with
        | nil => exact ⟨rfl, (List.cons.inj e).2⟩
        | cons b m' =>
          rw [wrL, wrL, List.nil_append, List.cons_append] at e
          exact absurd (List.cons.inj e).1 (by decide)
      | cons a m ihm =>
        intro m' h h' z z' e
        cases m' with
        | nil =>
          rw [wrL, wrL, List.nil_append, List.cons_append] at e
          exact absurd (List.cons.inj e).1 (by decide)
        | cons b m' =>
          rw [wrL, wrL, List.cons_append, List.cons_append, List.append_assoc, List.append_assoc] at e
          have ends : ∀ (m : List Tm) (z : List UInt8), End (wrL 44 m ++ 41 :: z) := by
            intro m z
            cases m with
            | nil => exact .inr ⟨41, z, rfl, .inl rfl⟩
            | cons a m => exact .inr ⟨44, _, by rw [wrL]; rfl, .inr rfl⟩
          have ha := h a (by simp)
          obtain ⟨rfl, e2⟩ := ih a b ha.1 ha.2 (h' b (by simp)) _ _ (ends m z) (ends m' z') (List.cons.inj e).2
          obtain ⟨rfl, e3⟩ := ihm m' (fun c hc => h c (by simp [hc])) (fun c hc => h' c (by simp [hc])) z z' e2
          exact ⟨rfl, e3⟩
    have e : headW k s n ++ ((wrL 40 l ++ if l.isEmpty = true then [] else [41]) ++ x) = headW k' s' n' ++ ((wrL 40 l' ++ if l'.isEmpty = true then [] else [41]) ++ x') := by
      rw [wrT, wrT] at e
      rw [← List.append_assoc, ← List.append_assoc (headW k' s' n')]
      exact e
    -- what follows a head
    have hsep : ∀ (l : List Tm) (x : List UInt8), End x → Sep ((wrL 40 l ++ if l.isEmpty = true then [] else [41]) ++ x) := by
      intro l x hx
      cases l with
      | nil => exact hx.sep
      | cons a l => exact .inr ⟨40, _, by rw [wrL]; rfl, rfl⟩
    have s1 := hsep l x hx
    have s2 := hsep l' x' hx'
    have one : ∀ {s : ByteArray} {n : Int}, headW 1 s n = 95 :: bl (numT n) := rfl
    have three : ∀ {s : ByteArray} {n : Int}, headW 3 s n = bl (numT n) := rfl
    have two : ∀ {s : ByteArray} {n : Int}, headW 2 s n = writeL s := rfl
    have four : ∀ {s : ByteArray} {n : Int}, headW 4 s n = writeL s := rfl
    have numsp : ∀ (n m : Int) (y y' : List UInt8), Sep y → Sep y' → bl (numT n) ++ y = bl (numT m) ++ y' → n = m ∧ y = y' := by
      intro n m y y' hy hy' e
      obtain ⟨h1, h2⟩ := span_inj (num_pl n) (num_pl m) hy hy' e
      exact ⟨num_inj h1, h2⟩
    have nilx : ∀ x : List UInt8, (wrL 40 [] ++ if ([] : List Tm).isEmpty = true then [] else [41]) ++ x = x := fun x => by rw [wrL]; rfl
    have consx : ∀ (a : Tm) (l : List Tm) (x : List UInt8), (wrL 40 (a :: l) ++ if (a :: l).isEmpty = true then [] else [41]) ++ x = 40 :: (wrT a ++ (wrL 44 l ++ 41 :: x)) := by
      intro a l x
      rw [wrL, if_neg (by simp)]
      simp only [List.append_assoc, List.cons_append, List.nil_append]
    have end40 : ∀ (y : List UInt8), ¬ End (40 :: y) := by
      intro y h
      rcases h with h | ⟨b, z, h, rfl | rfl⟩
      · cases h
      · exact absurd (List.cons.inj h).1 (by decide)
      · exact absurd (List.cons.inj h).1 (by decide)
    rcases may_kinds ht with ⟨rfl, rfl, rfl⟩ | ⟨rfl, rfl, rfl⟩ | ⟨rfl, rfl, rfl, hc⟩ | ⟨rfl, hne, rfl, hc, hml⟩ <;>
      rcases may_kinds hu with ⟨rfl, rfl, rfl⟩ | ⟨rfl, rfl, rfl⟩ | ⟨rfl, rfl, rfl, hc'⟩ | ⟨rfl, hne', rfl, hc', hml'⟩
    · rw [one, one, List.cons_append, List.cons_append, nilx, nilx] at e
      rw [nilx] at s1 s2
      obtain ⟨rfl, h⟩ := numsp _ _ _ _ s1 s2 (List.cons.inj e).2
      exact ⟨rfl, h⟩
    · exact absurd e var_num
    · exact absurd e.symm (name_var hc')
    · exact absurd e.symm (name_var hc')
    · exact absurd e.symm var_num
    · rw [three, three, nilx, nilx] at e
      rw [nilx] at s1 s2
      obtain ⟨rfl, h⟩ := numsp _ _ _ _ s1 s2 e
      exact ⟨rfl, h⟩
    · exact absurd e.symm (name_num hc' s2 s1)
    · exact absurd e.symm (name_num hc' s2 s1)
    · exact absurd e (name_var hc)
    · exact absurd e (name_num hc s1 s2)
    · rw [two, two] at e
      obtain ⟨rfl, h⟩ := write_inj hc hc' s1 s2 e
      rw [nilx, nilx] at h
      exact ⟨rfl, h⟩
    · rw [two, four] at e
      obtain ⟨rfl, h⟩ := write_inj hc hc' s1 s2 e
      cases l' with
      | nil => exact absurd rfl hne'
      | cons a l' =>
        rw [nilx, consx] at h
        rw [h] at hx
        exact absurd hx (end40 _)
    · exact absurd e (name_var hc)
    · exact absurd e (name_num hc s1 s2)
    · rw [two, four] at e
      obtain ⟨rfl, h⟩ := write_inj hc hc' s1 s2 e
      cases l with
      | nil => exact absurd rfl hne
      | cons a l =>
        rw [nilx, consx] at h
        rw [← h] at hx'
        exact absurd hx' (end40 _)
    · rw [four, four] at e
      obtain ⟨rfl, h⟩ := write_inj hc hc' s1 s2 e
      cases l with
      | nil => exact absurd rfl hne
      | cons a l =>
        cases l' with
        | nil => exact absurd rfl hne'
        | cons b l' =>
          rw [consx, consx] at h
          have mem : ∀ {m : List Tm}, mayL m = true → ∀ a ∈ m, mayT a = true := by
            intro m
            induction m with
            | nil => intro _ a h; cases h
            | cons b m ih => intro h a ha; rw [mayL, Bool.and_eq_true] at h; exact (List.mem_cons.1 ha).elim (fun e => e ▸ h.1) (fun ha => ih h.2 a ha)
          have sz : ∀ c ∈ a :: l, SizeOf.sizeOf c < N := fun c hc => by
            have := IsL.mem_size (k := 4) (n := 0) (s := s) hc; omega
          have := lists (a :: l) (b :: l') (fun c hc => ⟨sz c hc, mem hml c hc⟩) (mem hml') x x' (by
            rw [wrL, wrL, List.cons_append, List.cons_append, List.append_assoc, List.append_assoc, (List.cons.inj h).2])
          rw [this.1]
          exact ⟨rfl, this.2⟩
end Go.AE.YtgcbaefclkfnoaaDoor
end

/-! Compare: numbers, the first that is not 0, terms. -/
section
set_option linter.unusedVariables false
set_option linter.unusedSimpArgs false
namespace Go.AE.YtgcbaefclkfnoaaDoor
open Go Go.AE Go.Proofs.YtgcbaefclkfnoaaDoor

def cmpI (a b : Int) : Int := if decide (a < b) = true then -1 else if decide (a > b) = true then 1 else 0
def cmpS (a b : ByteArray) : Int := Lib.compareBytes a.data.toList b.data.toList
theorem nan_ok (x : Int) : callW F 63 [.v (.int .i64 x)] [] = some (.v (.bool false), []) := by
  refine callW_pure (c := c63) rfl rfl 0 ?_
  have z : (x == x) = true := beq_self_eq_true x
  simp only [c63, start, List.replicate, c63_0, c63_1, z, Q0, Q1, Q2, Q3, Q4, Q5, Q6, Q7, Q8, Q9, Q10, Q11, Q12, Q13, Q14, Q15, Q16, Q17, Q18, Q19, Q20, Q21, Q22, Q23, Q24, Q25, Q26, Q27, Q28, Q29, Q30, Q31, Q32, Q33, Q35, Q36, Q37, Q38, Q39, Q40, Q41, Q42, Q43, Q44, Q45, Q46, Q47, Q48, Q49, Q50, Q51, Q52, Q53, Q54, Q55, Q56, Q57, Q58, Q59, Q60, Q61, Q62, Q63, Q64, Q65, Q66, Q67, Q68, Q69, Q70, Q71, Q72, Q73, Q99, Q100, Q101, Q102, Q103, Q74, Q75, Q77, Q78, Q79, Q80, Q81, Q82, Q83, Q84, clr, List.length_nil, List.length_cons, List.getElem?_cons_zero, List.getElem?_cons_succ, Nat.reduceAdd, Nat.zero_add, Nat.add_zero, Nat.reduceLeDiff, Nat.reduceSub, ↓reduceIte, List.drop_succ_cons, List.drop_zero, List.take_succ_cons, List.take_zero, Bool.false_eq_true, List.nil_append, List.cons_append, Bool.not_true, Bool.not_false, cond_true, cond_false, bne, Q85, Q86, Q87, Q88, Q89, Q90, Q91, Q92, Q93, Q94, Q95, Q96, Q97, Q98, Q110, Q111, Q116, Q117, Q118, Q119, Q120, Q121, Q122, Q123, Option.map_some, Option.map_none, Q34]
theorem nan2_ok (x : Int) : callW F 65 [.v (.int .i64 x)] [] = some (.v (.bool false), []) := by
  refine callW_pure (c := c65) rfl rfl 0 ?_
  have z : (x == x) = true := beq_self_eq_true x
  simp only [c65, start, List.replicate, c65_0, c65_1, z, Q0, Q1, Q2, Q3, Q4, Q5, Q6, Q7, Q8, Q9, Q10, Q11, Q12, Q13, Q14, Q15, Q16, Q17, Q18, Q19, Q20, Q21, Q22, Q23, Q24, Q25, Q26, Q27, Q28, Q29, Q30, Q31, Q32, Q33, Q35, Q36, Q37, Q38, Q39, Q40, Q41, Q42, Q43, Q44, Q45, Q46, Q47, Q48, Q49, Q50, Q51, Q52, Q53, Q54, Q55, Q56, Q57, Q58, Q59, Q60, Q61, Q62, Q63, Q64, Q65, Q66, Q67, Q68, Q69, Q70, Q71, Q72, Q73, Q99, Q100, Q101, Q102, Q103, Q74, Q75, Q77, Q78, Q79, Q80, Q81, Q82, Q83, Q84, clr, List.length_nil, List.length_cons, List.getElem?_cons_zero, List.getElem?_cons_succ, Nat.reduceAdd, Nat.zero_add, Nat.add_zero, Nat.reduceLeDiff, Nat.reduceSub, ↓reduceIte, List.drop_succ_cons, List.drop_zero, List.take_succ_cons, List.take_zero, Bool.false_eq_true, List.nil_append, List.cons_append, Bool.not_true, Bool.not_false, cond_true, cond_false, bne, Q85, Q86, Q87, Q88, Q89, Q90, Q91, Q92, Q93, Q94, Q95, Q96, Q97, Q98, Q110, Q111, Q116, Q117, Q118, Q119, Q120, Q121, Q122, Q123, Option.map_some, Option.map_none, Q34]
theorem cmpi_ok (a b : Int) : callW F 45 [.v (.int .i64 a), .v (.int .i64 b)] [] = some (.v (.int .i64 (cmpI a b)), []) := by
  refine callW_pure (c := c45) rfl rfl 0 ?_
  have h1 := nan_ok a
  have h2 := nan_ok b
  unfold cmpI
  cases h3 : decide (a < b) with
  | true => simp only [c45, start, List.replicate, c45_0, c45_1, c45_2, c45_3, c45_7, c45_9, c45_10, h1, h2, h3, snap_int, Q0, Q1, Q2, Q3, Q4, Q5, Q6, Q7, Q8, Q9, Q10, Q11, Q12, Q13, Q14, Q15, Q16, Q17, Q18, Q19, Q20, Q21, Q22, Q23, Q24, Q25, Q26, Q27, Q28, Q29, Q30, Q31, Q32, Q33, Q35, Q36, Q37, Q38, Q39, Q40, Q41, Q42, Q43, Q44, Q45, Q46, Q47, Q48, Q49, Q50, Q51, Q52, Q53, Q54, Q55, Q56, Q57, Q58, Q59, Q60, Q61, Q62, Q63, Q64, Q65, Q66, Q67, Q68, Q69, Q70, Q71, Q72, Q73, Q99, Q100, Q101, Q102, Q103, Q74, Q75, Q77, Q78, Q79, Q80, Q81, Q82, Q83, Q84, clr, List.length_nil, List.length_cons, List.getElem?_cons_zero, List.getElem?_cons_succ, Nat.reduceAdd, Nat.zero_add, Nat.add_zero, Nat.reduceLeDiff, Nat.reduceSub, ↓reduceIte, List.drop_succ_cons, List.drop_zero, List.take_succ_cons, List.take_zero, Bool.false_eq_true, List.nil_append, List.cons_append, Bool.not_true, Bool.not_false, cond_true, cond_false, bne, Q85, Q86, Q87, Q88, Q89, Q90, Q91, Q92, Q93, Q94, Q95, Q96, Q97, Q98, Q110, Q111, Q116, Q117, Q118, Q119, Q120, Q121, Q122, Q123, Option.map_some, Option.map_none, Q34]
  | false =>
  cases h4 : decide (a > b) with
  | true => simp only [c45, start, List.replicate, c45_0, c45_1, c45_2, c45_3, c45_7, c45_9, c45_11, c45_12, h1, h2, h3, h4, snap_int, Q0, Q1, Q2, Q3, Q4, Q5, Q6, Q7, Q8, Q9, Q10, Q11, Q12, Q13, Q14, Q15, Q16, Q17, Q18, Q19, Q20, Q21, Q22, Q23, Q24, Q25, Q26, Q27, Q28, Q29, Q30, Q31, Q32, Q33, Q35, Q36, Q37, Q38, Q39, Q40, Q41, Q42, Q43, Q44, Q45, Q46, Q47, Q48, Q49, Q50, Q51, Q52, Q53, Q54, Q55, Q56, Q57, Q58, Q59, Q60, Q61, Q62, Q63, Q64, Q65, Q66, Q67, Q68, Q69, Q70, Q71, Q72, Q73, Q99, Q100, Q101, Q102, Q103, Q74, Q75, Q77, Q78, Q79, Q80, Q81, Q82, Q83, Q84, clr, List.length_nil, List.length_cons, List.getElem?_cons_zero, List.getElem?_cons_succ, Nat.reduceAdd, Nat.zero_add, Nat.add_zero, Nat.reduceLeDiff, Nat.reduceSub, ↓reduceIte, List.drop_succ_cons, List.drop_zero, List.take_succ_cons, List.take_zero, Bool.false_eq_true, List.nil_append, List.cons_append, Bool.not_true, Bool.not_false, cond_true, cond_false, bne, Q85, Q86, Q87, Q88, Q89, Q90, Q91, Q92, Q93, Q94, Q95, Q96, Q97, Q98, Q110, Q111, Q116, Q117, Q118, Q119, Q120, Q121, Q122, Q123, Option.map_some, Option.map_none, Q34]
  | false => simp only [c45, start, List.replicate, c45_0, c45_1, c45_2, c45_3, c45_7, c45_9, c45_11, c45_13, h1, h2, h3, h4, snap_int, Q0, Q1, Q2, Q3, Q4, Q5, Q6, Q7, Q8, Q9, Q10, Q11, Q12, Q13, Q14, Q15, Q16, Q17, Q18, Q19, Q20, Q21, Q22, Q23, Q24, Q25, Q26, Q27, Q28, Q29, Q30, Q31, Q32, Q33, Q35, Q36, Q37, Q38, Q39, Q40, Q41, Q42, Q43, Q44, Q45, Q46, Q47, Q48, Q49, Q50, Q51, Q52, Q53, Q54, Q55, Q56, Q57, Q58, Q59, Q60, Q61, Q62, Q63, Q64, Q65, Q66, Q67, Q68, Q69, Q70, Q71, Q72, Q73, Q99, Q100, Q101, Q102, Q103, Q74, Q75, Q77, Q78, Q79, Q80, Q81, Q82, Q83, Q84, clr, List.length_nil, List.length_cons, List.getElem?_cons_zero, List.getElem?_cons_succ, Nat.reduceAdd, Nat.zero_add, Nat.add_zero, Nat.reduceLeDiff, Nat.reduceSub, ↓reduceIte, List.drop_succ_cons, List.drop_zero, List.take_succ_cons, List.take_zero, Bool.false_eq_true, List.nil_append, List.cons_append, Bool.not_true, Bool.not_false, cond_true, cond_false, bne, Q85, Q86, Q87, Q88, Q89, Q90, Q91, Q92, Q93, Q94, Q95, Q96, Q97, Q98, Q110, Q111, Q116, Q117, Q118, Q119, Q120, Q121, Q122, Q123, Option.map_some, Option.map_none, Q34]
theorem cmpn_ok (a b : Int) : callW F 48 [.v (.int .i64 a), .v (.int .i64 b)] [] = some (.v (.int .i64 (cmpI a b)), []) := by
  refine callW_pure (c := c48) rfl rfl 0 ?_
  have h1 := nan2_ok a
  have h2 := nan2_ok b
  unfold cmpI
  cases h3 : decide (a < b) with
  | true => simp only [c48, start, List.replicate, c48_0, c48_1, c48_2, c48_3, c48_7, c48_9, c48_10, h1, h2, h3, snap_int, Q0, Q1, Q2, Q3, Q4, Q5, Q6, Q7, Q8, Q9, Q10, Q11, Q12, Q13, Q14, Q15, Q16, Q17, Q18, Q19, Q20, Q21, Q22, Q23, Q24, Q25, Q26, Q27, Q28, Q29, Q30, Q31, Q32, Q33, Q35, Q36, Q37, Q38, Q39, Q40, Q41, Q42, Q43, Q44, Q45, Q46, Q47, Q48, Q49, Q50, Q51, Q52, Q53, Q54, Q55, Q56, Q57, Q58, Q59, Q60, Q61, Q62, Q63, Q64, Q65, Q66, Q67, Q68, Q69, Q70, Q71, Q72, Q73, Q99, Q100, Q101, Q102, Q103, Q74, Q75, Q77, Q78, Q79, Q80, Q81, Q82, Q83, Q84, clr, List.length_nil, List.length_cons, List.getElem?_cons_zero, List.getElem?_cons_succ, Nat.reduceAdd, Nat.zero_add, Nat.add_zero, Nat.reduceLeDiff, Nat.reduceSub, ↓reduceIte, List.drop_succ_cons, List.drop_zero, List.take_succ_cons, List.take_zero, Bool.false_eq_true, List.nil_append, List.cons_append, Bool.not_true, Bool.not_false, cond_true, cond_false, bne, Q85, Q86, Q87, Q88, Q89, Q90, Q91, Q92, Q93, Q94, Q95, Q96, Q97, Q98, Q110, Q111, Q116, Q117, Q118, Q119, Q120, Q121, Q122, Q123, Option.map_some, Option.map_none, Q34]
  | false =>
  cases h4 : decide (a > b) with
  | true => simp only [c48, start, List.replicate, c48_0, c48_1, c48_2, c48_3, c48_7, c48_9, c48_11, c48_12, h1, h2, h3, h4, snap_int, Q0, Q1, Q2, Q3, Q4, Q5, Q6, Q7, Q8, Q9, Q10, Q11, Q12, Q13, Q14, Q15, Q16, Q17, Q18, Q19, Q20, Q21, Q22, Q23, Q24, Q25, Q26, Q27, Q28, Q29, Q30, Q31, Q32, Q33, Q35, Q36, Q37, Q38, Q39, Q40, Q41, Q42, Q43, Q44, Q45, Q46, Q47, Q48, Q49, Q50, Q51, Q52, Q53, Q54, Q55, Q56, Q57, Q58, Q59, Q60, Q61, Q62, Q63, Q64, Q65, Q66, Q67, Q68, Q69, Q70, Q71, Q72, Q73, Q99, Q100, Q101, Q102, Q103, Q74, Q75, Q77, Q78, Q79, Q80, Q81, Q82, Q83, Q84, clr, List.length_nil, List.length_cons, List.getElem?_cons_zero, List.getElem?_cons_succ, Nat.reduceAdd, Nat.zero_add, Nat.add_zero, Nat.reduceLeDiff, Nat.reduceSub, ↓reduceIte, List.drop_succ_cons, List.drop_zero, List.take_succ_cons, List.take_zero, Bool.false_eq_true, List.nil_append, List.cons_append, Bool.not_true, Bool.not_false, cond_true, cond_false, bne, Q85, Q86, Q87, Q88, Q89, Q90, Q91, Q92, Q93, Q94, Q95, Q96, Q97, Q98, Q110, Q111, Q116, Q117, Q118, Q119, Q120, Q121, Q122, Q123, Option.map_some, Option.map_none, Q34]
  | false => simp only [c48, start, List.replicate, c48_0, c48_1, c48_2, c48_3, c48_7, c48_9, c48_11, c48_13, h1, h2, h3, h4, snap_int, Q0, Q1, Q2, Q3, Q4, Q5, Q6, Q7, Q8, Q9, Q10, Q11, Q12, Q13, Q14, Q15, Q16, Q17, Q18, Q19, Q20, Q21, Q22, Q23, Q24, Q25, Q26, Q27, Q28, Q29, Q30, Q31, Q32, Q33, Q35, Q36, Q37, Q38, Q39, Q40, Q41, Q42, Q43, Q44, Q45, Q46, Q47, Q48, Q49, Q50, Q51, Q52, Q53, Q54, Q55, Q56, Q57, Q58, Q59, Q60, Q61, Q62, Q63, Q64, Q65, Q66, Q67, Q68, Q69, Q70, Q71, Q72, Q73, Q99, Q100, Q101, Q102, Q103, Q74, Q75, Q77, Q78, Q79, Q80, Q81, Q82, Q83, Q84, clr, List.length_nil, List.length_cons, List.getElem?_cons_zero, List.getElem?_cons_succ, Nat.reduceAdd, Nat.zero_add, Nat.add_zero, Nat.reduceLeDiff, Nat.reduceSub, ↓reduceIte, List.drop_succ_cons, List.drop_zero, List.take_succ_cons, List.take_zero, Bool.false_eq_true, List.nil_append, List.cons_append, Bool.not_true, Bool.not_false, cond_true, cond_false, bne, Q85, Q86, Q87, Q88, Q89, Q90, Q91, Q92, Q93, Q94, Q95, Q96, Q97, Q98, Q110, Q111, Q116, Q117, Q118, Q119, Q120, Q121, Q122, Q123, Option.map_some, Option.map_none, Q34]
def ordK (k : Int) : Int := if (k == 1) = true then -2 else if (k == 3) = true then -1 else if (k == 2) = true then 0 else 1
theorem ord_ok (k : Int) : callW F 46 [.v (.int .i64 k)] [] = some (.v (.int .i64 (ordK k)), []) := by
  refine callW_pure (c := c46) rfl rfl 0 ?_
  unfold ordK
  cases h1 : (k == 1) with
  | true => simp only [c46, start, List.replicate, c46_0, c46_1, c46_2, c46_3, h1, Q0, Q1, Q2, Q3, Q4, Q5, Q6, Q7, Q8, Q9, Q10, Q11, Q12, Q13, Q14, Q15, Q16, Q17, Q18, Q19, Q20, Q21, Q22, Q23, Q24, Q25, Q26, Q27, Q28, Q29, Q30, Q31, Q32, Q33, Q35, Q36, Q37, Q38, Q39, Q40, Q41, Q42, Q43, Q44, Q45, Q46, Q47, Q48, Q49, Q50, Q51, Q52, Q53, Q54, Q55, Q56, Q57, Q58, Q59, Q60, Q61, Q62, Q63, Q64, Q65, Q66, Q67, Q68, Q69, Q70, Q71, Q72, Q73, Q99, Q100, Q101, Q102, Q103, Q74, Q75, Q77, Q78, Q79, Q80, Q81, Q82, Q83, Q84, clr, List.length_nil, List.length_cons, List.getElem?_cons_zero, List.getElem?_cons_succ, Nat.reduceAdd, Nat.zero_add, Nat.add_zero, Nat.reduceLeDiff, Nat.reduceSub, ↓reduceIte, List.drop_succ_cons, List.drop_zero, List.take_succ_cons, List.take_zero, Bool.false_eq_true, List.nil_append, List.cons_append, Bool.not_true, Bool.not_false, cond_true, cond_false, bne, Q85, Q86, Q87, Q88, Q89, Q90, Q91, Q92, Q93, Q94, Q95, Q96, Q97, Q98, Q110, Q111, Q116, Q117, Q118, Q119, Q120, Q121, Q122, Q123, Option.map_some, Option.map_none, Q34]
  | false =>
  cases h2 : (k == 3) with
  | true => simp only [c46, start, List.replicate, c46_0, c46_1, c46_2, c46_4, c46_5, h1, h2, Q0, Q1, Q2, Q3, Q4, Q5, Q6, Q7, Q8, Q9, Q10, Q11, Q12, Q13, Q14, Q15, Q16, Q17, Q18, Q19, Q20, Q21, Q22, Q23, Q24, Q25, Q26, Q27, Q28, Q29, Q30, Q31, Q32, Q33, Q35, Q36, Q37, Q38, Q39, Q40, Q41, Q42, Q43, Q44, Q45, Q46, Q47, Q48, Q49, Q50, Q51, Q52, Q53, Q54, Q55, Q56, Q57, Q58, Q59, Q60, Q61, Q62, Q63, Q64, Q65, Q66, Q67, Q68, Q69, Q70, Q71, Q72, Q73, Q99, Q100, Q101, Q102, Q103, Q74, Q75, Q77, Q78, Q79, Q80, Q81, Q82, Q83, Q84, clr, List.length_nil, List.length_cons, List.getElem?_cons_zero, List.getElem?_cons_succ, Nat.reduceAdd, Nat.zero_add, Nat.add_zero, Nat.reduceLeDiff, Nat.reduceSub, ↓reduceIte, List.drop_succ_cons, List.drop_zero, List.take_succ_cons, List.take_zero, Bool.false_eq_true, List.nil_append, List.cons_append, Bool.not_true, Bool.not_false, cond_true, cond_false, bne, Q85, Q86, Q87, Q88, Q89, Q90, Q91, Q92, Q93, Q94, Q95, Q96, Q97, Q98, Q110, Q111, Q116, Q117, Q118, Q119, Q120, Q121, Q122, Q123, Option.map_some, Option.map_none, Q34]
  | false =>
  cases h3 : (k == 2) with
  | true => simp only [c46, start, List.replicate, c46_0, c46_1, c46_2, c46_4, c46_6, c46_7, h1, h2, h3, Q0, Q1, Q2, Q3, Q4, Q5, Q6, Q7, Q8, Q9, Q10, Q11, Q12, Q13, Q14, Q15, Q16, Q17, Q18, Q19, Q20, Q21, Q22, Q23, Q24, Q25, Q26, Q27, Q28, Q29, Q30, Q31, Q32, Q33, Q35, Q36, Q37, Q38, Q39, Q40, Q41, Q42, Q43, Q44, Q45, Q46, Q47, Q48, Q49, Q50, Q51, Q52, Q53, Q54, Q55, Q56, Q57, Q58, Q59, Q60, Q61, Q62, Q63, Q64, Q65, Q66, Q67, Q68, Q69, Q70, Q71, Q72, Q73, Q99, Q100, Q101, Q102, Q103, Q74, Q75, Q77, Q78, Q79, Q80, Q81, Q82, Q83, Q84, clr, List.length_nil, List.length_cons, List.getElem?_cons_zero, List.getElem?_cons_succ, Nat.reduceAdd, Nat.zero_add, Nat.add_zero, Nat.reduceLeDiff, Nat.reduceSub, ↓reduceIte, List.drop_succ_cons, List.drop_zero, List.take_succ_cons, List.take_zero, Bool.false_eq_true, List.nil_append, List.cons_append, Bool.not_true, Bool.not_false, cond_true, cond_false, bne, Q85, Q86, Q87, Q88, Q89, Q90, Q91, Q92, Q93, Q94, Q95, Q96, Q97, Q98, Q110, Q111, Q116, Q117, Q118, Q119, Q120, Q121, Q122, Q123, Option.map_some, Option.map_none, Q34]
  | false => simp only [c46, start, List.replicate, c46_0, c46_1, c46_2, c46_4, c46_6, c46_8, h1, h2, h3, Q0, Q1, Q2, Q3, Q4, Q5, Q6, Q7, Q8, Q9, Q10, Q11, Q12, Q13, Q14, Q15, Q16, Q17, Q18, Q19, Q20, Q21, Q22, Q23, Q24, Q25, Q26, Q27, Q28, Q29, Q30, Q31, Q32, Q33, Q35, Q36, Q37, Q38, Q39, Q40, Q41, Q42, Q43, Q44, Q45, Q46, Q47, Q48, Q49, Q50, Q51, Q52, Q53, Q54, Q55, Q56, Q57, Q58, Q59, Q60, Q61, Q62, Q63, Q64, Q65, Q66, Q67, Q68, Q69, Q70, Q71, Q72, Q73, Q99, Q100, Q101, Q102, Q103, Q74, Q75, Q77, Q78, Q79, Q80, Q81, Q82, Q83, Q84, clr, List.length_nil, List.length_cons, List.getElem?_cons_zero, List.getElem?_cons_succ, Nat.reduceAdd, Nat.zero_add, Nat.add_zero, Nat.reduceLeDiff, Nat.reduceSub, ↓reduceIte, List.drop_succ_cons, List.drop_zero, List.take_succ_cons, List.take_zero, Bool.false_eq_true, List.nil_append, List.cons_append, Bool.not_true, Bool.not_false, cond_true, cond_false, bne, Q85, Q86, Q87, Q88, Q89, Q90, Q91, Q92, Q93, Q94, Q95, Q96, Q97, Q98, Q110, Q111, Q116, Q117, Q118, Q119, Q120, Q121, Q122, Q123, Option.map_some, Option.map_none, Q34]

def orL : List Int → Int
  | [] => 0
  | a :: l => if (a == 0) = true then orL l else a
def V44 (c : AV) (n i : Int) (x1 x3 x7 x8 : AV) : List AV := [.junk, x1, .v (.int .i64 0), x3, c, .v (.int .i64 n), .v (.int .i64 i), x7, x8]
def K44 : List Bool := [false, false, true, false, true, true, true, false, false]
theorem or_ok (l : List Int) (hm : l.length ≤ 1000) : callW F 44 [.slc 1 true true (l.map fun n => .v (.int .i64 n))] [] = some (.v (.int .i64 (orL l)), []) := by
  have hs : Sl 1 (.slc 1 true true (l.map fun n => AV.v (.int .i64 n))) (l.map fun n => .v (.int .i64 n)) := .slc _ _ _
  generalize hc : AV.slc 1 true true (l.map fun n => AV.v (.int .i64 n)) = c at hs ⊢
  refine callW_pure (c := c44) rfl rfl (l.length + 1) ?_
  have q1 := fun h : List AO => hs.len h
  rw [List.length_map] at q1
  obtain ⟨e, v', h', g1, g2, g3⟩ := loop_rule0 (call := callW F) (K := l.length + 1) (b := c44_8) (keep := K44)
    (fun i v h => v = V44 c l.length i .junk .junk .junk .junk ∧ orL (l.drop i) = orL l)
    (fun e v h => (e = .exit 0 ∧ orL l = 0 ∧ ∃ x3 x8, v = V44 c l.length l.length .junk x3 (.v (.bool false)) x8) ∨ (e = .ret ∧ getO v [] (.var 1) = .v (.int .i64 (orL l))))
    l.length (m := l.length + 1) (v := [c, .v (.int .i64 0), .v (.int .i64 0), .v undef, c, .v (.int .i64 l.length), .v (.int .i64 0), .v undef, .v undef]) (h := []) (by omega) ⟨rfl, rfl⟩ (by
      rintro i v h hi ⟨rfl, hR⟩
      by_cases hil : i < l.length
      · have hlt := lt_t hil
        have he : (l.map fun n => AV.v (.int .i64 n))[i]? = some (.v (.int .i64 l[i])) := by simp [hil]
        have q2 := fun h : List AO => hs.ia he h
        have q3 : ∀ (h : List AO) (n : Int), Q76 h false 1 (.ip (AV.v (.int .i64 n)).cells) = some (.v (.int .i64 n)) := fun _ _ => rfl
        have hdr : l.drop i = l[i] :: l.drop (i + 1) := List.drop_eq_getElem_cons hil
        have hw := wrap_succ hil (show l.length ≤ maxLen by have : maxLen = 9223372036854775807 := rfl; omega)
        rw [hdr, orL] at hR
        cases hb : (l[i] == 0) with
        | true =>
          rw [if_pos hb] at hR
          refine ⟨.normal, V44 c l.length ((i + 1 : Nat) : Int) .junk (.v (.int .i64 l[i])) (.v (.bool true)) (.v (.bool false)), h, ?_, hil, rfl, hR⟩
          simp only [V44, c44_8, c44_3, c44_4, c44_5, c44_7, hlt, q2, q3, hb, hw, Q0, Q1, Q2, Q3, Q4, Q5, Q6, Q7, Q8, Q9, Q10, Q11, Q12, Q13, Q14, Q15, Q16, Q17, Q18, Q19, Q20, Q21, Q22, Q23, Q24, Q25, Q26, Q27, Q28, Q29, Q30, Q31, Q32, Q33, Q35, Q36, Q37, Q38, Q39, Q40, Q41, Q42, Q43, Q44, Q45, Q46, Q47, Q48, Q49, Q50, Q51, Q52, Q53, Q54, Q55, Q56, Q57, Q58, Q59, Q60, Q61, Q62, Q63, Q64, Q65, Q66, Q67, Q68, Q69, Q70, Q71, Q72, Q73, Q99, Q100, Q101, Q102, Q103, Q74, Q75, Q77, Q78, Q79, Q80, Q81, Q82, Q83, Q84, clr, List.length_nil, List.length_cons, List.getElem?_cons_zero, List.getElem?_cons_succ, Nat.reduceAdd, Nat.zero_add, Nat.add_zero, Nat.reduceLeDiff, Nat.reduceSub, ↓reduceIte, List.drop_succ_cons, List.drop_zero, List.take_succ_cons, List.take_zero, Bool.false_eq_true, List.nil_append, List.cons_append, Bool.not_true, Bool.not_false, cond_true, cond_false, bne, Q85, Q86, Q87, Q88, Q89, Q90, Q91, Q92, Q93, Q94, Q95, Q96, Q97, Q98, Q110, Q111, Q116, Q117, Q118, Q119, Q120, Q121, Q122, Q123, Option.map_some, Option.map_none, Q34]
        | false =>
          rw [if_neg (by rw [hb]; simp)] at hR
          refine ⟨.ret, V44 c l.length i (.v (.int .i64 l[i])) (.v (.int .i64 l[i])) (.v (.bool true)) (.v (.bool true)), h, ?_, .inr ⟨rfl, by rw [← hR]; rfl⟩⟩
          simp only [V44, c44_8, c44_3, c44_4, c44_5, c44_6, hlt, q2, q3, hb, Q0, Q1, Q2, Q3, Q4, Q5, Q6, Q7, Q8, Q9, Q10, Q11, Q12, Q13, Q14, Q15, Q16, Q17, Q18, Q19, Q20, Q21, Q22, Q23, Q24, Q25, Q26, Q27, Q28, Q29, Q30, Q31, Q32, Q33, Q35, Q36, Q37, Q38, Q39, Q40, Q41, Q42, Q43, Q44, Q45, Q46, Q47, Q48, Q49, Q50, Q51, Q52, Q53, Q54, Q55, Q56, Q57, Q58, Q59, Q60, Q61, Q62, Q63, Q64, Q65, Q66, Q67, Q68, Q69, Q70, Q71, Q72, Q73, Q99, Q100, Q101, Q102, Q103, Q74, Q75, Q77, Q78, Q79, Q80, Q81, Q82, Q83, Q84, clr, List.length_nil, List.length_cons, List.getElem?_cons_zero, List.getElem?_cons_succ, Nat.reduceAdd, Nat.zero_add, Nat.add_zero, Nat.reduceLeDiff, Nat.reduceSub, ↓reduceIte, List.drop_succ_cons, List.drop_zero, List.take_succ_cons, List.take_zero, Bool.false_eq_true, List.nil_append, List.cons_append, Bool.not_true, Bool.not_false, cond_true, cond_false, bne, Q85, Q86, Q87, Q88, Q89, Q90, Q91, Q92, Q93, Q94, Q95, Q96, Q97, Q98, Q110, Q111, Q116, Q117, Q118, Q119, Q120, Q121, Q122, Q123, Option.map_some, Option.map_none, Q34]
      · have hie : i = l.length := by omega
        subst hie
        have hlt := lt_f (n := l.length)
        rw [List.drop_of_length_le (Nat.le_refl _), orL] at hR
        refine ⟨.exit 0, V44 c l.length l.length .junk .junk (.v (.bool false)) .junk, h, ?_, .inl ⟨rfl, hR.symm, _, _, rfl⟩⟩
        simp only [V44, c44_8, c44_3, hlt, Q0, Q1, Q2, Q3, Q4, Q5, Q6, Q7, Q8, Q9, Q10, Q11, Q12, Q13, Q14, Q15, Q16, Q17, Q18, Q19, Q20, Q21, Q22, Q23, Q24, Q25, Q26, Q27, Q28, Q29, Q30, Q31, Q32, Q33, Q35, Q36, Q37, Q38, Q39, Q40, Q41, Q42, Q43, Q44, Q45, Q46, Q47, Q48, Q49, Q50, Q51, Q52, Q53, Q54, Q55, Q56, Q57, Q58, Q59, Q60, Q61, Q62, Q63, Q64, Q65, Q66, Q67, Q68, Q69, Q70, Q71, Q72, Q73, Q99, Q100, Q101, Q102, Q103, Q74, Q75, Q77, Q78, Q79, Q80, Q81, Q82, Q83, Q84, clr, List.length_nil, List.length_cons, List.getElem?_cons_zero, List.getElem?_cons_succ, Nat.reduceAdd, Nat.zero_add, Nat.add_zero, Nat.reduceLeDiff, Nat.reduceSub, ↓reduceIte, List.drop_succ_cons, List.drop_zero, List.take_succ_cons, List.take_zero, Bool.false_eq_true, List.nil_append, List.cons_append, Bool.not_true, Bool.not_false, cond_true, cond_false, bne, Q85, Q86, Q87, Q88, Q89, Q90, Q91, Q92, Q93, Q94, Q95, Q96, Q97, Q98, Q110, Q111, Q116, Q117, Q118, Q119, Q120, Q121, Q122, Q123, Option.map_some, Option.map_none, Q34])
  rw [show c44.body = (.seq (.region [] [] c44_0) (.seq (.region [] [] c44_1) (.seq (.seq (.region [] [] c44_2) (.block 0 (.loop K44 [] c44_8))) (.seq (.region [] [] c44_9) .ret)))) from rfl, show c44.res = [.var 1] from rfl]
  rw [show start c44 [c] = [c, .v undef, .v undef, .v undef, .v undef, .v undef, .v undef, .v undef, .v undef] from rfl]
  rcases g3 with ⟨rfl, h1, x3, x8, rfl⟩ | ⟨rfl, h2⟩
  · rw [h1]
    generalize c44_8 = bb at g1 ⊢
    simp only [V44, c44_0, c44_1, c44_2, c44_9, q1, g1, Q0, Q1, Q2, Q3, Q4, Q5, Q6, Q7, Q8, Q9, Q10, Q11, Q12, Q13, Q14, Q15, Q16, Q17, Q18, Q19, Q20, Q21, Q22, Q23, Q24, Q25, Q26, Q27, Q28, Q29, Q30, Q31, Q32, Q33, Q35, Q36, Q37, Q38, Q39, Q40, Q41, Q42, Q43, Q44, Q45, Q46, Q47, Q48, Q49, Q50, Q51, Q52, Q53, Q54, Q55, Q56, Q57, Q58, Q59, Q60, Q61, Q62, Q63, Q64, Q65, Q66, Q67, Q68, Q69, Q70, Q71, Q72, Q73, Q99, Q100, Q101, Q102, Q103, Q74, Q75, Q77, Q78, Q79, Q80, Q81, Q82, Q83, Q84, clr, List.length_nil, List.length_cons, List.getElem?_cons_zero, List.getElem?_cons_succ, Nat.reduceAdd, Nat.zero_add, Nat.add_zero, Nat.reduceLeDiff, Nat.reduceSub, ↓reduceIte, List.drop_succ_cons, List.drop_zero, List.take_succ_cons, List.take_zero, Bool.false_eq_true, List.nil_append, List.cons_append, Bool.not_true, Bool.not_false, cond_true, cond_false, bne, Q85, Q86, Q87, Q88, Q89, Q90, Q91, Q92, Q93, Q94, Q95, Q96, Q97, Q98, Q110, Q111, Q116, Q117, Q118, Q119, Q120, Q121, Q122, Q123, Option.map_some, Option.map_none, Q34]
  · generalize c44_8 = bb at g1 ⊢
    simp only [V44, c44_0, c44_1, c44_2, c44_9, q1, g1, h2, Q0, Q1, Q2, Q3, Q4, Q5, Q6, Q7, Q8, Q9, Q10, Q11, Q12, Q13, Q14, Q15, Q16, Q17, Q18, Q19, Q20, Q21, Q22, Q23, Q24, Q25, Q26, Q27, Q28, Q29, Q30, Q31, Q32, Q33, Q35, Q36, Q37, Q38, Q39, Q40, Q41, Q42, Q43, Q44, Q45, Q46, Q47, Q48, Q49, Q50, Q51, Q52, Q53, Q54, Q55, Q56, Q57, Q58, Q59, Q60, Q61, Q62, Q63, Q64, Q65, Q66, Q67, Q68, Q69, Q70, Q71, Q72, Q73, Q99, Q100, Q101, Q102, Q103, Q74, Q75, Q77, Q78, Q79, Q80, Q81, Q82, Q83, Q84, clr, List.length_nil, List.length_cons, List.getElem?_cons_zero, List.getElem?_cons_succ, Nat.reduceAdd, Nat.zero_add, Nat.add_zero, Nat.reduceLeDiff, Nat.reduceSub, ↓reduceIte, List.drop_succ_cons, List.drop_zero, List.take_succ_cons, List.take_zero, Bool.false_eq_true, List.nil_append, List.cons_append, Bool.not_true, Bool.not_false, cond_true, cond_false, bne, Q85, Q86, Q87, Q88, Q89, Q90, Q91, Q92, Q93, Q94, Q95, Q96, Q97, Q98, Q110, Q111, Q116, Q117, Q118, Q119, Q120, Q121, Q122, Q123, Option.map_some, Option.map_none, Q34]

/-! ### Terms -/
def headC (k : Int) (s : ByteArray) (n : Int) (l : List Tm) (k' : Int) (s' : ByteArray) (n' : Int) (l' : List Tm) : Int := orL [cmpI (ordK k) (ordK k'), cmpI l.length l'.length, cmpS s s', cmpI n n']
mutual
def compT : Tm → Tm → Int
  | .mk k s n l, .mk k' s' n' l' => if (headC k s n l k' s' n' l' == 0) = true then compL l l' else headC k s n l k' s' n' l'
def compL : List Tm → List Tm → Int
  | [], _ => 0
  | _, [] => 0
  | a :: l, b :: l' => if (compT a b == 0) = true then compL l l' else compT a b
end
theorem headC_len {k n k' n' : Int} {s s' : ByteArray} {l l' : List Tm} (h : headC k s n l k' s' n' l' = 0) : l.length = l'.length := by
  simp only [headC, orL, beq_iff_eq] at h
  split at h
  · split at h
    · rename_i h1
      unfold cmpI at h1
      simp only [decide_eq_true_eq] at h1
      split at h1
      · omega
      · split at h1 <;> omega
    · contradiction
  · contradiction
section
variable {k n k' n' : Int} {s s' : ByteArray} {c c' : AV} {G : List AO}
theorem tc0 : Q76 (tb k n s c :: tb k' n' s' c' :: G) false 1 (.ptr 1 0) = some (.v (.int .i64 k')) := rfl
theorem tc1 : Q76 (tb k n s c :: tb k' n' s' c' :: G) false 1 (.ptr 1 1) = some (.v (.string s')) := rfl
theorem tc2 : Q76 (tb k n s c :: tb k' n' s' c' :: G) false 1 (.ptr 1 2) = some (.v (.int .i64 n')) := rfl
theorem tc3 : Q76 (tb k n s c :: tb k' n' s' c' :: G) false 1 (.ptr 1 3) = some c' := rfl
theorem tcx : bx [tb k n s c] 24 (some [.v (.int .i64 k'), .v (.string s'), .v (.int .i64 n'), c']) = some (.ptr 1 0, [tb k n s c, tb k' n' s' c']) := rfl
end
def bs4 (h : List AO) (a b c d : AV) : Option (AV × List AO) := (evElems [] [a, b, c, d] h 1 (List.replicate 4 (zeroEl [.int .i64 0])) [(0, .loc 0), (1, .loc 1), (2, .loc 2), (3, .loc 3)]).map fun l => (.slc 1 true true l, h)
theorem e_bslice4 {call : CallF} {vars env : List AV} {h : List AO} {x0 x1 x2 x3 : Opd} :
    evOp call vars env h (.bslice 1 [(.int .i64 0)] 4 [(0, x0), (1, x1), (2, x2), (3, x3)]) = bs4 h (getO vars env x0) (getO vars env x1) (getO vars env x2) (getO vars env x3) := by
  simp only [evOp, bs4, evElems, getO]
  rfl
theorem bs4_int {h : List AO} {a b c d : Int} : bs4 h (.v (.int .i64 a)) (.v (.int .i64 b)) (.v (.int .i64 c)) (.v (.int .i64 d)) = some (.slc 1 true true [.v (.int .i64 a), .v (.int .i64 b), .v (.int .i64 c), .v (.int .i64 d)], h) := rfl
def V19 (x i : Int) (x7 : AV) : List AV := [.junk, .junk, .ptr 0 0, .ptr 1 0, .junk, .v (.int .i64 x), .v (.int .i64 i), x7]
def K19 : List Bool := [false, false, true, true, false, true, true, false]
theorem comp_ok : ∀ (N : Nat) (t u : Tm) (a b : AV), SizeOf.sizeOf t < N → IsT a t → IsT b u → callW F 19 [a, b] [] = some (.v (.int .i64 (compT t u)), []) := by
  intro N
  induction N with
  | zero => intro t u a b h; omega
  | succ N ih =>
    intro t u a b hN ha hb
    cases ha with
    | mk k s n c l hc =>
    cases hb with
    | mk k' s' n' c' l' hc' =>
    obtain ⟨es, hs, hes, hm⟩ := hc.sl
    obtain ⟨es', hs', hes', hm'⟩ := hc'.sl
    have hll := hes.length
    have hll' := hes'.length
    refine callW_pure (c := c19) rfl rfl (l.length + 1) ?_
    have q1 := fun h : List AO => hs.len h
    have q1' := fun h : List AO => hs'.len h
    rw [hll] at q1
    rw [hll'] at q1'
    have o1 := ord_ok k
    have o2 := ord_ok k'
    have p1 := cmpi_ok (ordK k) (ordK k')
    have p2 := cmpi_ok l.length l'.length
    have p3 : callW F 47 [.v (.string s), .v (.string s')] [] = some (.v (.int .i64 (cmpS s s')), []) := callW_oracle (g := compareG) rfl rfl
    have p4 := cmpn_ok n n'
    have p5 := or_ok [cmpI (ordK k) (ordK k'), cmpI l.length l'.length, cmpS s s', cmpI n n'] (by simp)
    rw [show orL [cmpI (ordK k) (ordK k'), cmpI l.length l'.length, cmpS s s', cmpI n n'] = headC k s n l k' s' n' l' from rfl] at p5
    simp only [List.map_cons, List.map_nil] at p5
    rw [compT]
    have hlen : headC k s n l k' s' n' l' = 0 → l.length = l'.length := headC_len
    generalize headC k s n l k' s' n' l' = c0 at p5 hlen ⊢
    obtain ⟨e, v', h', g1, g2, g3⟩ := loop_rule0 (call := callW F) (K := l.length + 1) (b := c19_6) (keep := K19)
      (fun i v h => ∃ x, v = V19 x i .junk ∧ h = [tb k n s c, tb k' n' s' c'] ∧ (x = 0 → l.length = l'.length) ∧ (if (x == 0) = true then compL (l.drop i) (l'.drop i) else x) = (if (c0 == 0) = true then compL l l' else c0))
      (fun e v h => e = .exit 0 ∧ h = [tb k n s c, tb k' n' s' c'] ∧ ∃ (i : Int) (x7 : AV), v = V19 (if (c0 == 0) = true then compL l l' else c0) i x7)
      l.length (m := l.length + 1) (v := [.agg [.v (.int .i64 k), .v (.string s), .v (.int .i64 n), c], .agg [.v (.int .i64 k'), .v (.string s'), .v (.int .i64 n'), c'], .ptr 0 0, .ptr 1 0, .v (.int .i64 0), .v (.int .i64 c0), .v (.int .i64 0), .v undef]) (h := [tb k n s c, tb k' n' s' c']) (by omega) ⟨c0, rfl, rfl, hlen, rfl⟩ (by
        rintro i v h hi ⟨x, rfl, rfl, hxl, hR⟩
        cases hx : (x == 0) with
        | false =>
          rw [hx] at hR
          refine ⟨.exit 0, V19 x i (.v (.bool false)), _, ?_, rfl, rfl, i, _, by rw [← hR]; rfl⟩
          simp only [V19, c19_6, c19_3, hx, Q0, Q1, Q2, Q3, Q4, Q5, Q6, Q7, Q8, Q9, Q10, Q11, Q12, Q13, Q14, Q15, Q16, Q17, Q18, Q19, Q20, Q21, Q22, Q23, Q24, Q25, Q26, Q27, Q28, Q29, Q30, Q31, Q32, Q33, Q35, Q36, Q37, Q38, Q39, Q40, Q41, Q42, Q43, Q44, Q45, Q46, Q47, Q48, Q49, Q50, Q51, Q52, Q53, Q54, Q55, Q56, Q57, Q58, Q59, Q60, Q61, Q62, Q63, Q64, Q65, Q66, Q67, Q68, Q69, Q70, Q71, Q72, Q73, Q99, Q100, Q101, Q102, Q103, Q74, Q75, Q77, Q78, Q79, Q80, Q81, Q82, Q83, Q84, clr, List.length_nil, List.length_cons, List.getElem?_cons_zero, List.getElem?_cons_succ, Nat.reduceAdd, Nat.zero_add, Nat.add_zero, Nat.reduceLeDiff, Nat.reduceSub, ↓reduceIte, List.drop_succ_cons, List.drop_zero, List.take_succ_cons, List.take_zero, Bool.false_eq_true, List.nil_append, List.cons_append, Bool.not_true, Bool.not_false, cond_true, cond_false, bne, Q85, Q86, Q87, Q88, Q89, Q90, Q91, Q92, Q93, Q94, Q95, Q96, Q97, Q98, Q110, Q111, Q116, Q117, Q118, Q119, Q120, Q121, Q122, Q123, Option.map_some, Option.map_none, Q34]
        | true =>
          rw [hx, if_pos rfl] at hR
          have hx0 : x = 0 := by simpa using hx
          have hleq := hxl hx0
          by_cases hil : i < l.length
          · have hil' : i < l'.length := by omega
            have hle : i < es.length := by omega
            have hle' : i < es'.length := by omega
            have hT := hes.at hle hil
            have hT' := hes'.at hle' hil'
            have hlt := lt_t hil
            have he : es[i]? = some es[i] := List.getElem?_eq_getElem hle
            have he' : es'[i]? = some es'[i] := List.getElem?_eq_getElem hle'
            have q2 := fun h : List AO => hs.ia he h
            have q2' := fun h : List AO => hs'.ia he' h
            have hf := hT.facts
            have hf' := hT'.facts
            have hd : l.drop i = l[i] :: l.drop (i + 1) := List.drop_eq_getElem_cons hil
            have hd' : l'.drop i = l'[i] :: l'.drop (i + 1) := List.drop_eq_getElem_cons hil'
            have hw := wrap_succ hle hm
            have hc := ih l[i] l'[i] es[i] es'[i] (by have := IsL.mem_size (k := k) (n := n) (s := s) (List.getElem_mem hil); omega) hT hT'
            rw [hd, hd', compL] at hR
            refine ⟨.normal, V19 (compT l[i] l'[i]) ((i + 1 : Nat) : Int) (.v (.bool true)), [tb k n s c, tb k' n' s' c'], ?_, hil, _, rfl, rfl, fun _ => hleq, hR⟩
            simp only [V19, c19_6, c19_3, c19_4, c19_5, hx, hlt, q1, q2, q2', hf, hf', hc, hw, tb3, tc3, Q0, Q1, Q2, Q3, Q4, Q5, Q6, Q7, Q8, Q9, Q10, Q11, Q12, Q13, Q14, Q15, Q16, Q17, Q18, Q19, Q20, Q21, Q22, Q23, Q24, Q25, Q26, Q27, Q28, Q29, Q30, Q31, Q32, Q33, Q35, Q36, Q37, Q38, Q39, Q40, Q41, Q42, Q43, Q44, Q45, Q46, Q47, Q48, Q49, Q50, Q51, Q52, Q53, Q54, Q55, Q56, Q57, Q58, Q59, Q60, Q61, Q62, Q63, Q64, Q65, Q66, Q67, Q68, Q69, Q70, Q71, Q72, Q73, Q99, Q100, Q101, Q102, Q103, Q74, Q75, Q77, Q78, Q79, Q80, Q81, Q82, Q83, Q84, clr, List.length_nil, List.length_cons, List.getElem?_cons_zero, List.getElem?_cons_succ, Nat.reduceAdd, Nat.zero_add, Nat.add_zero, Nat.reduceLeDiff, Nat.reduceSub, ↓reduceIte, List.drop_succ_cons, List.drop_zero, List.take_succ_cons, List.take_zero, Bool.false_eq_true, List.nil_append, List.cons_append, Bool.not_true, Bool.not_false, cond_true, cond_false, bne, Q85, Q86, Q87, Q88, Q89, Q90, Q91, Q92, Q93, Q94, Q95, Q96, Q97, Q98, Q110, Q111, Q116, Q117, Q118, Q119, Q120, Q121, Q122, Q123, Option.map_some, Option.map_none, Q34]
          · have hie : i = l.length := by omega
            subst hie
            have hlt := lt_f (n := l.length)
            rw [List.drop_of_length_le (Nat.le_refl _), compL] at hR
            refine ⟨.exit 0, V19 x l.length (.v (.bool false)), _, ?_, rfl, rfl, _, _, by rw [← hR, hx0]⟩
            simp only [V19, c19_6, c19_3, hx, hlt, q1, tb3, Q0, Q1, Q2, Q3, Q4, Q5, Q6, Q7, Q8, Q9, Q10, Q11, Q12, Q13, Q14, Q15, Q16, Q17, Q18, Q19, Q20, Q21, Q22, Q23, Q24, Q25, Q26, Q27, Q28, Q29, Q30, Q31, Q32, Q33, Q35, Q36, Q37, Q38, Q39, Q40, Q41, Q42, Q43, Q44, Q45, Q46, Q47, Q48, Q49, Q50, Q51, Q52, Q53, Q54, Q55, Q56, Q57, Q58, Q59, Q60, Q61, Q62, Q63, Q64, Q65, Q66, Q67, Q68, Q69, Q70, Q71, Q72, Q73, Q99, Q100, Q101, Q102, Q103, Q74, Q75, Q77, Q78, Q79, Q80, Q81, Q82, Q83, Q84, clr, List.length_nil, List.length_cons, List.getElem?_cons_zero, List.getElem?_cons_succ, Nat.reduceAdd, Nat.zero_add, Nat.add_zero, Nat.reduceLeDiff, Nat.reduceSub, ↓reduceIte, List.drop_succ_cons, List.drop_zero, List.take_succ_cons, List.take_zero, Bool.false_eq_true, List.nil_append, List.cons_append, Bool.not_true, Bool.not_false, cond_true, cond_false, bne, Q85, Q86, Q87, Q88, Q89, Q90, Q91, Q92, Q93, Q94, Q95, Q96, Q97, Q98, Q110, Q111, Q116, Q117, Q118, Q119, Q120, Q121, Q122, Q123, Option.map_some, Option.map_none, Q34])
    rw [show c19.body = (.seq (.region [] [] c19_0) (.seq (.region [] [] c19_1) (.seq (.seq (.region [] [] c19_2) (.block 0 (.loop K19 [] c19_6))) (.seq (.region [] [] c19_7) .ret)))) from rfl, show c19.res = [.var 4] from rfl]
    rw [show start c19 [.agg [.v (.int .i64 k), .v (.string s), .v (.int .i64 n), c], .agg [.v (.int .i64 k'), .v (.string s'), .v (.int .i64 n'), c']] = [.agg [.v (.int .i64 k), .v (.string s), .v (.int .i64 n), c], .agg [.v (.int .i64 k'), .v (.string s'), .v (.int .i64 n'), c'], .v undef, .v undef, .v undef, .v undef, .v undef, .v undef] from rfl]
    obtain ⟨rfl, rfl, i, x7, rfl⟩ := g3
    generalize (if (c0 == 0) = true then compL l l' else c0) = R at g1 ⊢
    generalize c19_6 = bb at g1 ⊢
    have hsl : ∀ (h : List AO) (a b c d : Int), (AV.slc 1 true true [.v (.int .i64 a), .v (.int .i64 b), .v (.int .i64 c), .v (.int .i64 d)]).snap1 h = some (.slc 1 true true [.v (.int .i64 a), .v (.int .i64 b), .v (.int .i64 c), .v (.int .i64 d)]) := fun _ _ _ _ _ => rfl
    simp only [V19, c19_0, c19_1, c19_2, c19_7, tbx, tcx, tb0, tb1, tb2, tb3, tc0, tc1, tc2, tc3, q1, q1', o1, o2, p1, p2, p3, p4, p5, g1, snap_int, snap_str, e_bslice4, bs4_int, hsl, Q0, Q1, Q2, Q3, Q4, Q5, Q6, Q7, Q8, Q9, Q10, Q11, Q12, Q13, Q14, Q15, Q16, Q17, Q18, Q19, Q20, Q21, Q22, Q23, Q24, Q25, Q26, Q27, Q28, Q29, Q30, Q31, Q32, Q33, Q35, Q36, Q37, Q38, Q39, Q40, Q41, Q42, Q43, Q44, Q45, Q46, Q47, Q48, Q49, Q50, Q51, Q52, Q53, Q54, Q55, Q56, Q57, Q58, Q59, Q60, Q61, Q62, Q63, Q64, Q65, Q66, Q67, Q68, Q69, Q70, Q71, Q72, Q73, Q99, Q100, Q101, Q102, Q103, Q74, Q75, Q77, Q78, Q79, Q80, Q81, Q82, Q83, Q84, clr, List.length_nil, List.length_cons, List.getElem?_cons_zero, List.getElem?_cons_succ, Nat.reduceAdd, Nat.zero_add, Nat.add_zero, Nat.reduceLeDiff, Nat.reduceSub, ↓reduceIte, List.drop_succ_cons, List.drop_zero, List.take_succ_cons, List.take_zero, Bool.false_eq_true, List.nil_append, List.cons_append, Bool.not_true, Bool.not_false, cond_true, cond_false, bne, Q85, Q86, Q87, Q88, Q89, Q90, Q91, Q92, Q93, Q94, Q95, Q96, Q97, Q98, Q110, Q111, Q116, Q117, Q118, Q119, Q120, Q121, Q122, Q123, Option.map_some, Option.map_none]
end Go.AE.YtgcbaefclkfnoaaDoor
end

/-! Same: the program's and the document's. -/
section
set_option linter.unusedVariables false
set_option linter.unusedSimpArgs false
namespace Go.AE.YtgcbaefclkfnoaaDoor
open Go Go.AE Go.Proofs.YtgcbaefclkfnoaaDoor

def headS (k : Int) (s : ByteArray) (n : Int) (l : List Tm) (k' : Int) (s' : ByteArray) (n' : Int) (l' : List Tm) : Bool := (k == k') && ((n == n') && ((s.toList == s'.toList) && ((l.length : Int) == (l'.length : Int))))
mutual
def sameT : Tm → Tm → Bool
  | .mk k s n l, .mk k' s' n' l' => headS k s n l k' s' n' l' && sameL l l'
def sameL : List Tm → List Tm → Bool
  | [], _ => true
  | _, [] => true
  | a :: l, b :: l' => sameT a b && sameL l l'
end
theorem headS_len {k n k' n' : Int} {s s' : ByteArray} {l l' : List Tm} (h : headS k s n l k' s' n' l' = true) : l.length = l'.length := by
  simp only [headS, Bool.and_eq_true, beq_iff_eq] at h
  omega
theorem toL_inj {s s' : ByteArray} (h : s.toList = s'.toList) : s = s' := by
  rw [ByteArray.toList_eq, ByteArray.toList_eq] at h
  cases s with | mk d => cases s' with | mk d' => cases d with | mk x => cases d' with | mk y => simp at h; rw [h]
theorem same_iff : ∀ (N : Nat) (t u : Tm), SizeOf.sizeOf t < N → (sameT t u = true ↔ t = u) := by
  intro N
  induction N with
  | zero => intro t u h; omega
  | succ N ih =>
    have hl : ∀ (l m : List Tm), SizeOf.sizeOf l < N + 1 → l.length = m.length → (sameL l m = true ↔ l = m) := by
      intro l
      induction l with
      | nil =>
        intro m _ h1
        cases m with
        | nil => simp [sameL]
        | cons => simp at h1
      | cons x l ihl =>
        intro m hs h1
        cases m with
        | nil => simp at h1
        | cons y m =>
        simp only [List.length_cons, Nat.add_right_cancel_iff, List.cons.sizeOf_spec] at h1 hs
        rw [sameL, Bool.and_eq_true, ih x y (by omega), ihl m (by omega) h1, List.cons.injEq]
    rintro ⟨k, s, n, l⟩ ⟨k', s', n', l'⟩ hs
    simp only [Tm.mk.sizeOf_spec] at hs
    rw [sameT, Bool.and_eq_true, Tm.mk.injEq]
    constructor
    · rintro ⟨h1, h2⟩
      have h3 := headS_len h1
      simp only [headS, Bool.and_eq_true, beq_iff_eq] at h1
      exact ⟨h1.1, toL_inj h1.2.2.1, h1.2.1, (hl l l' (by omega) h3).1 h2⟩
    · rintro ⟨rfl, rfl, rfl, rfl⟩
      exact ⟨by simp [headS], (hl l l (by omega) rfl).2 rfl⟩

def V14 (ok : Bool) (i : Int) (x7 : AV) : List AV := [.junk, .junk, .ptr 0 0, .ptr 1 0, .junk, .v (.bool ok), .v (.int .i64 i), x7]
def K14 : List Bool := [false, false, true, true, false, true, true, false]
theorem same_ok : ∀ (N : Nat) (t u : Tm) (a b : AV), SizeOf.sizeOf t < N → IsT a t → IsT b u → callW F 14 [a, b] [] = some (.v (.bool (sameT t u)), []) := by
  intro N
  induction N with
  | zero => intro t u a b h; omega
  | succ N ih =>
    intro t u a b hN ha hb
    cases ha with
    | mk k s n c l hc =>
    cases hb with
    | mk k' s' n' c' l' hc' =>
    obtain ⟨es, hs, hes, hm⟩ := hc.sl
    obtain ⟨es', hs', hes', hm'⟩ := hc'.sl
    have hll := hes.length
    have hll' := hes'.length
    refine callW_pure (c := c14) rfl rfl (l.length + 1) ?_
    have q1 := fun h : List AO => hs.len h
    have q1' := fun h : List AO => hs'.len h
    rw [hll] at q1
    rw [hll'] at q1'
    rw [sameT]
    have hlen : headS k s n l k' s' n' l' = true → l.length = l'.length := headS_len
    obtain ⟨c0, hc0⟩ : ∃ c0, c0 = headS k s n l k' s' n' l' := ⟨_, rfl⟩
    rw [← hc0] at hlen ⊢
    obtain ⟨e, v', h', g1, g2, g3⟩ := loop_rule0 (call := callW F) (K := l.length + 1) (b := c14_6) (keep := K14)
      (fun i v h => ∃ x, v = V14 x i .junk ∧ h = [tb k n s c, tb k' n' s' c'] ∧ (x = true → l.length = l'.length) ∧ (x && sameL (l.drop i) (l'.drop i)) = (c0 && sameL l l'))
      (fun e v h => e = .exit 0 ∧ h = [tb k n s c, tb k' n' s' c'] ∧ ∃ (i : Int) (x7 : AV), v = V14 (c0 && sameL l l') i x7)
      l.length (m := l.length + 1) (v := [.agg [.v (.int .i64 k), .v (.string s), .v (.int .i64 n), c], .agg [.v (.int .i64 k'), .v (.string s'), .v (.int .i64 n'), c'], .ptr 0 0, .ptr 1 0, .v (.bool false), .v (.bool c0), .v (.int .i64 0), .v undef]) (h := [tb k n s c, tb k' n' s' c']) (by omega) ⟨c0, rfl, rfl, hlen, rfl⟩ (by
        rintro i v h hi ⟨x, rfl, rfl, hxl, hR⟩
        cases hx : x with
        | false =>
          rw [hx, Bool.false_and] at hR
          refine ⟨.exit 0, V14 false i (.v (.bool false)), _, ?_, rfl, rfl, i, _, by rw [← hR]⟩
          simp only [V14, c14_6, c14_3, Q0, Q1, Q2, Q3, Q4, Q5, Q6, Q7, Q8, Q9, Q10, Q11, Q12, Q13, Q14, Q15, Q16, Q17, Q18, Q19, Q20, Q21, Q22, Q23, Q24, Q25, Q26, Q27, Q28, Q29, Q30, Q31, Q32, Q33, Q35, Q36, Q37, Q38, Q39, Q40, Q41, Q42, Q43, Q44, Q45, Q46, Q47, Q48, Q49, Q50, Q51, Q52, Q53, Q54, Q55, Q56, Q57, Q58, Q59, Q60, Q61, Q62, Q63, Q64, Q65, Q66, Q67, Q68, Q69, Q70, Q71, Q72, Q73, Q99, Q100, Q101, Q102, Q103, Q74, Q75, Q77, Q78, Q79, Q80, Q81, Q82, Q83, Q84, clr, List.length_nil, List.length_cons, List.getElem?_cons_zero, List.getElem?_cons_succ, Nat.reduceAdd, Nat.zero_add, Nat.add_zero, Nat.reduceLeDiff, Nat.reduceSub, ↓reduceIte, List.drop_succ_cons, List.drop_zero, List.take_succ_cons, List.take_zero, Bool.false_eq_true, List.nil_append, List.cons_append, Bool.not_true, Bool.not_false, cond_true, cond_false, bne, Q85, Q86, Q87, Q88, Q89, Q90, Q91, Q92, Q93, Q94, Q95, Q96, Q97, Q98, Q110, Q111, Q116, Q117, Q118, Q119, Q120, Q121, Q122, Q123, Option.map_some, Option.map_none, Q34]
        | true =>
          rw [hx, Bool.true_and] at hR
          have hleq := hxl hx
          by_cases hil : i < l.length
          · have hil' : i < l'.length := by omega
            have hle : i < es.length := by omega
            have hle' : i < es'.length := by omega
            have hT := hes.at hle hil
            have hT' := hes'.at hle' hil'
            have hlt := lt_t hil
            have he : es[i]? = some es[i] := List.getElem?_eq_getElem hle
            have he' : es'[i]? = some es'[i] := List.getElem?_eq_getElem hle'
            have q2 := fun h : List AO => hs.ia he h
            have q2' := fun h : List AO => hs'.ia he' h
            have hf := hT.facts
            have hf' := hT'.facts
            have hd : l.drop i = l[i] :: l.drop (i + 1) := List.drop_eq_getElem_cons hil
            have hd' : l'.drop i = l'[i] :: l'.drop (i + 1) := List.drop_eq_getElem_cons hil'
            have hw := wrap_succ hle hm
            have hc := ih l[i] l'[i] es[i] es'[i] (by have := IsL.mem_size (k := k) (n := n) (s := s) (List.getElem_mem hil); omega) hT hT'
            rw [hd, hd', sameL] at hR
            refine ⟨.normal, V14 (sameT l[i] l'[i]) ((i + 1 : Nat) : Int) (.v (.bool true)), [tb k n s c, tb k' n' s' c'], ?_, hil, _, rfl, rfl, fun _ => hleq, hR⟩
            simp only [V14, c14_6, c14_3, c14_4, c14_5, hlt, q1, q2, q2', hf, hf', hc, hw, tb3, tc3, Q0, Q1, Q2, Q3, Q4, Q5, Q6, Q7, Q8, Q9, Q10, Q11, Q12, Q13, Q14, Q15, Q16, Q17, Q18, Q19, Q20, Q21, Q22, Q23, Q24, Q25, Q26, Q27, Q28, Q29, Q30, Q31, Q32, Q33, Q35, Q36, Q37, Q38, Q39, Q40, Q41, Q42, Q43, Q44, Q45, Q46, Q47, Q48, Q49, Q50, Q51, Q52, Q53, Q54, Q55, Q56, Q57, Q58, Q59, Q60, Q61, Q62, Q63, Q64, Q65, Q66, Q67, Q68, Q69, Q70, Q71, Q72, Q73, Q99, Q100, Q101, Q102, Q103, Q74, Q75, Q77, Q78, Q79, Q80, Q81, Q82, Q83, Q84, clr, List.length_nil, List.length_cons, List.getElem?_cons_zero, List.getElem?_cons_succ, Nat.reduceAdd, Nat.zero_add, Nat.add_zero, Nat.reduceLeDiff, Nat.reduceSub, ↓reduceIte, List.drop_succ_cons, List.drop_zero, List.take_succ_cons, List.take_zero, Bool.false_eq_true, List.nil_append, List.cons_append, Bool.not_true, Bool.not_false, cond_true, cond_false, bne, Q85, Q86, Q87, Q88, Q89, Q90, Q91, Q92, Q93, Q94, Q95, Q96, Q97, Q98, Q110, Q111, Q116, Q117, Q118, Q119, Q120, Q121, Q122, Q123, Option.map_some, Option.map_none, Q34]
          · have hie : i = l.length := by omega
            subst hie
            have hlt := lt_f (n := l.length)
            rw [List.drop_of_length_le (Nat.le_refl _), sameL] at hR
            refine ⟨.exit 0, V14 true l.length (.v (.bool false)), _, ?_, rfl, rfl, _, _, by rw [← hR]⟩
            simp only [V14, c14_6, c14_3, hlt, q1, tb3, Q0, Q1, Q2, Q3, Q4, Q5, Q6, Q7, Q8, Q9, Q10, Q11, Q12, Q13, Q14, Q15, Q16, Q17, Q18, Q19, Q20, Q21, Q22, Q23, Q24, Q25, Q26, Q27, Q28, Q29, Q30, Q31, Q32, Q33, Q35, Q36, Q37, Q38, Q39, Q40, Q41, Q42, Q43, Q44, Q45, Q46, Q47, Q48, Q49, Q50, Q51, Q52, Q53, Q54, Q55, Q56, Q57, Q58, Q59, Q60, Q61, Q62, Q63, Q64, Q65, Q66, Q67, Q68, Q69, Q70, Q71, Q72, Q73, Q99, Q100, Q101, Q102, Q103, Q74, Q75, Q77, Q78, Q79, Q80, Q81, Q82, Q83, Q84, clr, List.length_nil, List.length_cons, List.getElem?_cons_zero, List.getElem?_cons_succ, Nat.reduceAdd, Nat.zero_add, Nat.add_zero, Nat.reduceLeDiff, Nat.reduceSub, ↓reduceIte, List.drop_succ_cons, List.drop_zero, List.take_succ_cons, List.take_zero, Bool.false_eq_true, List.nil_append, List.cons_append, Bool.not_true, Bool.not_false, cond_true, cond_false, bne, Q85, Q86, Q87, Q88, Q89, Q90, Q91, Q92, Q93, Q94, Q95, Q96, Q97, Q98, Q110, Q111, Q116, Q117, Q118, Q119, Q120, Q121, Q122, Q123, Option.map_some, Option.map_none, Q34])
    rw [show c14.body = (.seq (.region [] [] c14_0) (.seq (.region [] [] c14_1) (.seq (.seq (.region [] [] c14_2) (.block 0 (.loop K14 [] c14_6))) (.seq (.region [] [] c14_7) .ret)))) from rfl, show c14.res = [.var 4] from rfl]
    rw [show start c14 [.agg [.v (.int .i64 k), .v (.string s), .v (.int .i64 n), c], .agg [.v (.int .i64 k'), .v (.string s'), .v (.int .i64 n'), c']] = [.agg [.v (.int .i64 k), .v (.string s), .v (.int .i64 n), c], .agg [.v (.int .i64 k'), .v (.string s'), .v (.int .i64 n'), c'], .v undef, .v undef, .v undef, .v undef, .v undef, .v undef] from rfl]
    obtain ⟨rfl, rfl, i, x7, rfl⟩ := g3
    generalize (c0 && sameL l l') = R at g1 ⊢
    generalize c14_6 = bb at g1 ⊢
    unfold headS at hc0
    cases h1 : (k == k') <;> cases h2 : (n == n') <;> cases h3 : (s.toList == s'.toList) <;> cases h4 : ((l.length : Int) == (l'.length : Int)) <;>
      (simp only [h1, h2, h3, h4, Bool.and_true, Bool.and_false, Bool.false_and, Bool.true_and, Bool.and_self] at hc0; subst hc0;
       simp only [V14, c14_0, c14_1, c14_2, c14_7, tbx, tcx, tb0, tb1, tb2, tb3, tc0, tc1, tc2, tc3, q1, q1', h1, h2, h3, h4, g1, Q0, Q1, Q2, Q3, Q4, Q5, Q6, Q7, Q8, Q9, Q10, Q11, Q12, Q13, Q14, Q15, Q16, Q17, Q18, Q19, Q20, Q21, Q22, Q23, Q24, Q25, Q26, Q27, Q28, Q29, Q30, Q31, Q32, Q33, Q35, Q36, Q37, Q38, Q39, Q40, Q41, Q42, Q43, Q44, Q45, Q46, Q47, Q48, Q49, Q50, Q51, Q52, Q53, Q54, Q55, Q56, Q57, Q58, Q59, Q60, Q61, Q62, Q63, Q64, Q65, Q66, Q67, Q68, Q69, Q70, Q71, Q72, Q73, Q99, Q100, Q101, Q102, Q103, Q74, Q75, Q77, Q78, Q79, Q80, Q81, Q82, Q83, Q84, clr, List.length_nil, List.length_cons, List.getElem?_cons_zero, List.getElem?_cons_succ, Nat.reduceAdd, Nat.zero_add, Nat.add_zero, Nat.reduceLeDiff, Nat.reduceSub, ↓reduceIte, List.drop_succ_cons, List.drop_zero, List.take_succ_cons, List.take_zero, Bool.false_eq_true, List.nil_append, List.cons_append, Bool.not_true, Bool.not_false, cond_true, cond_false, bne, Q85, Q86, Q87, Q88, Q89, Q90, Q91, Q92, Q93, Q94, Q95, Q96, Q97, Q98, Q110, Q111, Q116, Q117, Q118, Q119, Q120, Q121, Q122, Q123, Option.map_some, Option.map_none])

def V15 (n i : Int) (x5 x9 x10 : AV) : List AV := [.junk, .junk, .ptr 0 0, .ptr 1 0, .junk, x5, .junk, .v (.int .i64 n), .v (.int .i64 i), x9, x10]
def K15 : List Bool := [false, false, true, true, false, false, false, true, true, false, false]
theorem rsame_ok : ∀ (N : Nat) (t u : Tm) (a b : AV), SizeOf.sizeOf t < N → IsT a t → IsT b u → callW F 15 [a, b] [] = some (.v (.bool (sameT t u)), []) := by
  intro N
  induction N with
  | zero => intro t u a b h; omega
  | succ N ih =>
    intro t u a b hN ha hb
    cases ha with
    | mk k s n c l hc =>
    cases hb with
    | mk k' s' n' c' l' hc' =>
    obtain ⟨es, hs, hes, hm⟩ := hc.sl
    obtain ⟨es', hs', hes', hm'⟩ := hc'.sl
    have hll := hes.length
    have hll' := hes'.length
    refine callW_pure (c := c15) rfl rfl (l.length + 1) ?_
    have q1 := fun h : List AO => hs.len h
    have q1' := fun h : List AO => hs'.len h
    rw [hll] at q1
    rw [hll'] at q1'
    rw [sameT]
    have hlen : headS k s n l k' s' n' l' = true → l.length = l'.length := headS_len
    have loop : l.length = l'.length → ∀ (v : List AV), clr K15 v = V15 l.length 0 .junk .junk .junk → (sameL l l' = true ∧ loopN (exec (callW F) (l.length + 1) c15_9) K15 (l.length + 1) v [tb k n s c, tb k' n' s' c'] = some (.exit 0, V15 l.length l.length .junk (.v (.bool false)) .junk, [tb k n s c, tb k' n' s' c'])) ∨
        (sameL l l' = false ∧ ∃ v' h, loopN (exec (callW F) (l.length + 1) c15_9) K15 (l.length + 1) v [tb k n s c, tb k' n' s' c'] = some (.ret, v', h) ∧ getO v' [] (.var 4) = .v (.bool false)) := by
      intro hleq v hv
      obtain ⟨e, v', h', g1, g2, g3⟩ := loop_rule0 (call := callW F) (K := l.length + 1) (b := c15_9) (keep := K15)
        (fun i v h => v = V15 l.length i .junk .junk .junk ∧ h = [tb k n s c, tb k' n' s' c'] ∧ sameL (l.drop i) (l'.drop i) = sameL l l')
        (fun e v h => (e = .exit 0 ∧ sameL l l' = true ∧ v = V15 l.length l.length .junk (.v (.bool false)) .junk ∧ h = [tb k n s c, tb k' n' s' c']) ∨ (e = .ret ∧ sameL l l' = false ∧ getO v [] (.var 4) = .v (.bool false)))
        l.length (m := l.length + 1) (v := v) (h := [tb k n s c, tb k' n' s' c']) (by omega) ⟨hv, rfl, rfl⟩ (by
          rintro i v h hi ⟨rfl, rfl, hR⟩
          by_cases hil : i < l.length
          · have hil' : i < l'.length := by omega
            have hle : i < es.length := by omega
            have hle' : i < es'.length := by omega
            have hT := hes.at hle hil
            have hT' := hes'.at hle' hil'
            have hlt := lt_t hil
            have he : es[i]? = some es[i] := List.getElem?_eq_getElem hle
            have he' : es'[i]? = some es'[i] := List.getElem?_eq_getElem hle'
            have q2 := fun h : List AO => hs.ia he h
            have q2' := fun h : List AO => hs'.ia he' h
            have hf := hT.facts
            have hf' := hT'.facts
            have hd : l.drop i = l[i] :: l.drop (i + 1) := List.drop_eq_getElem_cons hil
            have hd' : l'.drop i = l'[i] :: l'.drop (i + 1) := List.drop_eq_getElem_cons hil'
            have hw := wrap_succ hle hm
            have hc := ih l[i] l'[i] es[i] es'[i] (by have := IsL.mem_size (k := k) (n := n) (s := s) (List.getElem_mem hil); omega) hT hT'
            rw [hd, hd', sameL] at hR
            cases hq : sameT l[i] l'[i] with
            | true =>
              rw [hq, Bool.true_and] at hR
              rw [hq] at hc
              refine ⟨.normal, V15 l.length ((i + 1 : Nat) : Int) (.v (.int .i64 i)) (.v (.bool true)) (.v (.bool false)), [tb k n s c, tb k' n' s' c'], ?_, hil, rfl, rfl, hR⟩
              simp only [V15, c15_9, c15_4, c15_5, c15_6, c15_8, hlt, q2, q2', hf, hf', hc, hw, tb3, tc3, Q0, Q1, Q2, Q3, Q4, Q5, Q6, Q7, Q8, Q9, Q10, Q11, Q12, Q13, Q14, Q15, Q16, Q17, Q18, Q19, Q20, Q21, Q22, Q23, Q24, Q25, Q26, Q27, Q28, Q29, Q30, Q31, Q32, Q33, Q35, Q36, Q37, Q38, Q39, Q40, Q41, Q42, Q43, Q44, Q45, Q46, Q47, Q48, Q49, Q50, Q51, Q52, Q53, Q54, Q55, Q56, Q57, Q58, Q59, Q60, Q61, Q62, Q63, Q64, Q65, Q66, Q67, Q68, Q69, Q70, Q71, Q72, Q73, Q99, Q100, Q101, Q102, Q103, Q74, Q75, Q77, Q78, Q79, Q80, Q81, Q82, Q83, Q84, clr, List.length_nil, List.length_cons, List.getElem?_cons_zero, List.getElem?_cons_succ, Nat.reduceAdd, Nat.zero_add, Nat.add_zero, Nat.reduceLeDiff, Nat.reduceSub, ↓reduceIte, List.drop_succ_cons, List.drop_zero, List.take_succ_cons, List.take_zero, Bool.false_eq_true, List.nil_append, List.cons_append, Bool.not_true, Bool.not_false, cond_true, cond_false, bne, Q85, Q86, Q87, Q88, Q89, Q90, Q91, Q92, Q93, Q94, Q95, Q96, Q97, Q98, Q110, Q111, Q116, Q117, Q118, Q119, Q120, Q121, Q122, Q123, Option.map_some, Option.map_none, Q34]
            | false =>
              rw [hq, Bool.false_and] at hR
              rw [hq] at hc
              refine ⟨.ret, [.junk, .junk, .ptr 0 0, .ptr 1 0, .v (.bool false), .v (.int .i64 i), .junk, .v (.int .i64 l.length), .v (.int .i64 i), .v (.bool true), .v (.bool true)], [tb k n s c, tb k' n' s' c'], ?_, .inr ⟨rfl, hR.symm, rfl⟩⟩
              simp only [V15, c15_9, c15_4, c15_5, c15_6, c15_7, hlt, q2, q2', hf, hf', hc, hw, tb3, tc3, Q0, Q1, Q2, Q3, Q4, Q5, Q6, Q7, Q8, Q9, Q10, Q11, Q12, Q13, Q14, Q15, Q16, Q17, Q18, Q19, Q20, Q21, Q22, Q23, Q24, Q25, Q26, Q27, Q28, Q29, Q30, Q31, Q32, Q33, Q35, Q36, Q37, Q38, Q39, Q40, Q41, Q42, Q43, Q44, Q45, Q46, Q47, Q48, Q49, Q50, Q51, Q52, Q53, Q54, Q55, Q56, Q57, Q58, Q59, Q60, Q61, Q62, Q63, Q64, Q65, Q66, Q67, Q68, Q69, Q70, Q71, Q72, Q73, Q99, Q100, Q101, Q102, Q103, Q74, Q75, Q77, Q78, Q79, Q80, Q81, Q82, Q83, Q84, clr, List.length_nil, List.length_cons, List.getElem?_cons_zero, List.getElem?_cons_succ, Nat.reduceAdd, Nat.zero_add, Nat.add_zero, Nat.reduceLeDiff, Nat.reduceSub, ↓reduceIte, List.drop_succ_cons, List.drop_zero, List.take_succ_cons, List.take_zero, Bool.false_eq_true, List.nil_append, List.cons_append, Bool.not_true, Bool.not_false, cond_true, cond_false, bne, Q85, Q86, Q87, Q88, Q89, Q90, Q91, Q92, Q93, Q94, Q95, Q96, Q97, Q98, Q110, Q111, Q116, Q117, Q118, Q119, Q120, Q121, Q122, Q123, Option.map_some, Option.map_none, Q34]
          · have hie : i = l.length := by omega
            subst hie
            have hlt := lt_f (n := l.length)
            rw [List.drop_of_length_le (Nat.le_refl _), sameL] at hR
            refine ⟨.exit 0, V15 l.length l.length .junk (.v (.bool false)) .junk, _, ?_, .inl ⟨rfl, hR.symm, rfl, rfl⟩⟩
            simp only [V15, c15_9, c15_4, hlt, Q0, Q1, Q2, Q3, Q4, Q5, Q6, Q7, Q8, Q9, Q10, Q11, Q12, Q13, Q14, Q15, Q16, Q17, Q18, Q19, Q20, Q21, Q22, Q23, Q24, Q25, Q26, Q27, Q28, Q29, Q30, Q31, Q32, Q33, Q35, Q36, Q37, Q38, Q39, Q40, Q41, Q42, Q43, Q44, Q45, Q46, Q47, Q48, Q49, Q50, Q51, Q52, Q53, Q54, Q55, Q56, Q57, Q58, Q59, Q60, Q61, Q62, Q63, Q64, Q65, Q66, Q67, Q68, Q69, Q70, Q71, Q72, Q73, Q99, Q100, Q101, Q102, Q103, Q74, Q75, Q77, Q78, Q79, Q80, Q81, Q82, Q83, Q84, clr, List.length_nil, List.length_cons, List.getElem?_cons_zero, List.getElem?_cons_succ, Nat.reduceAdd, Nat.zero_add, Nat.add_zero, Nat.reduceLeDiff, Nat.reduceSub, ↓reduceIte, List.drop_succ_cons, List.drop_zero, List.take_succ_cons, List.take_zero, Bool.false_eq_true, List.nil_append, List.cons_append, Bool.not_true, Bool.not_false, cond_true, cond_false, bne, Q85, Q86, Q87, Q88, Q89, Q90, Q91, Q92, Q93, Q94, Q95, Q96, Q97, Q98, Q110, Q111, Q116, Q117, Q118, Q119, Q120, Q121, Q122, Q123, Option.map_some, Option.map_none, Q34])
      rcases g3 with ⟨rfl, h1, rfl, rfl⟩ | ⟨rfl, h1, h2⟩
      · exact .inl ⟨h1, g1⟩
      · exact .inr ⟨h1, v', h', g1, h2⟩
    rw [show c15.body = (.seq (.region [] [] c15_0) (.seq (.seq (.region [] [] c15_1) (.cond (.var 6) (.seq (.region [] [] c15_2) .ret) .skip)) (.seq (.seq (.region [] [] c15_3) (.block 0 (.loop K15 [] c15_9))) (.seq (.region [] [] c15_10) .ret)))) from rfl, show c15.res = [.var 4] from rfl]
    rw [show start c15 [.agg [.v (.int .i64 k), .v (.string s), .v (.int .i64 n), c], .agg [.v (.int .i64 k'), .v (.string s'), .v (.int .i64 n'), c']] = [.agg [.v (.int .i64 k), .v (.string s), .v (.int .i64 n), c], .agg [.v (.int .i64 k'), .v (.string s'), .v (.int .i64 n'), c'], .v undef, .v undef, .v undef, .v undef, .v undef, .v undef, .v undef, .v undef, .v undef] from rfl]
    generalize c15_9 = bb at loop ⊢
    cases hc0 : headS k s n l k' s' n' l' with
    | false =>
      unfold headS at hc0
      cases h1 : (k == k') <;> cases h2 : (n == n') <;> cases h3 : (s.toList == s'.toList) <;> cases h4 : ((l.length : Int) == (l'.length : Int)) <;>
        (simp only [h1, h2, h3, h4, Bool.and_true, Bool.and_false, Bool.false_and, Bool.true_and, Bool.and_self, reduceCtorEq] at hc0) <;>
        simp only [c15_0, c15_1, c15_2, tbx, tcx, tb0, tb1, tb2, tb3, tc0, tc1, tc2, tc3, q1, q1', h1, h2, h3, h4, Bool.not_true, Bool.not_false, Bool.false_and, Q0, Q1, Q2, Q3, Q4, Q5, Q6, Q7, Q8, Q9, Q10, Q11, Q12, Q13, Q14, Q15, Q16, Q17, Q18, Q19, Q20, Q21, Q22, Q23, Q24, Q25, Q26, Q27, Q28, Q29, Q30, Q31, Q32, Q33, Q35, Q36, Q37, Q38, Q39, Q40, Q41, Q42, Q43, Q44, Q45, Q46, Q47, Q48, Q49, Q50, Q51, Q52, Q53, Q54, Q55, Q56, Q57, Q58, Q59, Q60, Q61, Q62, Q63, Q64, Q65, Q66, Q67, Q68, Q69, Q70, Q71, Q72, Q73, Q99, Q100, Q101, Q102, Q103, Q74, Q75, Q77, Q78, Q79, Q80, Q81, Q82, Q83, Q84, clr, List.length_nil, List.length_cons, List.getElem?_cons_zero, List.getElem?_cons_succ, Nat.reduceAdd, Nat.zero_add, Nat.add_zero, Nat.reduceLeDiff, Nat.reduceSub, ↓reduceIte, List.drop_succ_cons, List.drop_zero, List.take_succ_cons, List.take_zero, Bool.false_eq_true, List.nil_append, List.cons_append, Bool.not_true, Bool.not_false, cond_true, cond_false, bne, Q85, Q86, Q87, Q88, Q89, Q90, Q91, Q92, Q93, Q94, Q95, Q96, Q97, Q98, Q110, Q111, Q116, Q117, Q118, Q119, Q120, Q121, Q122, Q123, Option.map_some, Option.map_none]
    | true =>
      have lp := loop (hlen hc0) [.agg [.v (.int .i64 k), .v (.string s), .v (.int .i64 n), c], .agg [.v (.int .i64 k'), .v (.string s'), .v (.int .i64 n'), c'], .ptr 0 0, .ptr 1 0, .v (.bool false), .v undef, .v (.bool false), .v (.int .i64 l.length), .v (.int .i64 0), .v undef, .v undef] rfl
      simp only [headS, Bool.and_eq_true] at hc0
      obtain ⟨h1, h2, h3, h4⟩ := hc0
      rcases lp with ⟨p0, p1⟩ | ⟨p0, v', h', p1, p2⟩
      · rw [p0]
        simp only [V15, c15_0, c15_1, c15_3, c15_10, tbx, tcx, tb0, tb1, tb2, tb3, tc0, tc1, tc2, tc3, q1, q1', h1, h2, h3, h4, p1, Bool.not_true, Bool.not_false, Bool.true_and, Q0, Q1, Q2, Q3, Q4, Q5, Q6, Q7, Q8, Q9, Q10, Q11, Q12, Q13, Q14, Q15, Q16, Q17, Q18, Q19, Q20, Q21, Q22, Q23, Q24, Q25, Q26, Q27, Q28, Q29, Q30, Q31, Q32, Q33, Q35, Q36, Q37, Q38, Q39, Q40, Q41, Q42, Q43, Q44, Q45, Q46, Q47, Q48, Q49, Q50, Q51, Q52, Q53, Q54, Q55, Q56, Q57, Q58, Q59, Q60, Q61, Q62, Q63, Q64, Q65, Q66, Q67, Q68, Q69, Q70, Q71, Q72, Q73, Q99, Q100, Q101, Q102, Q103, Q74, Q75, Q77, Q78, Q79, Q80, Q81, Q82, Q83, Q84, clr, List.length_nil, List.length_cons, List.getElem?_cons_zero, List.getElem?_cons_succ, Nat.reduceAdd, Nat.zero_add, Nat.add_zero, Nat.reduceLeDiff, Nat.reduceSub, ↓reduceIte, List.drop_succ_cons, List.drop_zero, List.take_succ_cons, List.take_zero, Bool.false_eq_true, List.nil_append, List.cons_append, Bool.not_true, Bool.not_false, cond_true, cond_false, bne, Q85, Q86, Q87, Q88, Q89, Q90, Q91, Q92, Q93, Q94, Q95, Q96, Q97, Q98, Q110, Q111, Q116, Q117, Q118, Q119, Q120, Q121, Q122, Q123, Option.map_some, Option.map_none]
      · rw [p0]
        simp only [V15, c15_0, c15_1, c15_3, c15_10, tbx, tcx, tb0, tb1, tb2, tb3, tc0, tc1, tc2, tc3, q1, q1', h1, h2, h3, h4, p1, p2, Bool.not_true, Bool.not_false, Bool.and_false, Q0, Q1, Q2, Q3, Q4, Q5, Q6, Q7, Q8, Q9, Q10, Q11, Q12, Q13, Q14, Q15, Q16, Q17, Q18, Q19, Q20, Q21, Q22, Q23, Q24, Q25, Q26, Q27, Q28, Q29, Q30, Q31, Q32, Q33, Q35, Q36, Q37, Q38, Q39, Q40, Q41, Q42, Q43, Q44, Q45, Q46, Q47, Q48, Q49, Q50, Q51, Q52, Q53, Q54, Q55, Q56, Q57, Q58, Q59, Q60, Q61, Q62, Q63, Q64, Q65, Q66, Q67, Q68, Q69, Q70, Q71, Q72, Q73, Q99, Q100, Q101, Q102, Q103, Q74, Q75, Q77, Q78, Q79, Q80, Q81, Q82, Q83, Q84, clr, List.length_nil, List.length_cons, List.getElem?_cons_zero, List.getElem?_cons_succ, Nat.reduceAdd, Nat.zero_add, Nat.add_zero, Nat.reduceLeDiff, Nat.reduceSub, ↓reduceIte, List.drop_succ_cons, List.drop_zero, List.take_succ_cons, List.take_zero, Bool.false_eq_true, List.nil_append, List.cons_append, Bool.not_true, Bool.not_false, cond_true, cond_false, bne, Q85, Q86, Q87, Q88, Q89, Q90, Q91, Q92, Q93, Q94, Q95, Q96, Q97, Q98, Q110, Q111, Q116, Q117, Q118, Q119, Q120, Q121, Q122, Q123, Option.map_some, Option.map_none]
end Go.AE.YtgcbaefclkfnoaaDoor
end

/-! Compare's plain law: an order. TermOrders in plain Lean. -/
section
set_option linter.unusedVariables false
set_option linter.unusedSimpArgs false
namespace Go.AE.YtgcbaefclkfnoaaDoor
open Go Go.AE Go.Proofs.YtgcbaefclkfnoaaDoor

def T3 (p q r : Int) : Prop := p ≤ 0 → q ≤ 0 → r ≤ 0 ∧ (r = 0 ↔ p = 0 ∧ q = 0)
theorem t3_or {p q r p' q' r' : Int} (h : T3 p q r) (h' : p = 0 → q = 0 → T3 p' q' r') : T3 (if (p == 0) = true then p' else p) (if (q == 0) = true then q' else q) (if (r == 0) = true then r' else r) := by
  intro a b
  simp only [beq_iff_eq] at a b ⊢
  unfold T3 at h h'
  by_cases e1 : p = 0 <;> by_cases e2 : q = 0 <;> by_cases e3 : r = 0 <;> simp only [e1, e2, e3, if_true, if_false] at a b ⊢ <;> simp_all <;> omega
theorem t3_cmpI (a b c : Int) : T3 (cmpI a b) (cmpI b c) (cmpI a c) := by
  unfold cmpI T3
  simp only [decide_eq_true_eq]
  repeat' split
  all_goals omega
theorem cb_cons (x y : UInt8) (xs ys : List UInt8) : Lib.compareBytes (x :: xs) (y :: ys) = if x.toNat < y.toNat then -1 else if y.toNat < x.toNat then 1 else Lib.compareBytes xs ys := by
  rw [Lib.compareBytes]; rfl
theorem t3_bytes : ∀ (a b c : List UInt8), T3 (Lib.compareBytes a b) (Lib.compareBytes b c) (Lib.compareBytes a c)
  | [], [], [] => by simp [Lib.compareBytes, T3]
  | [], [], z :: zs => by simp [Lib.compareBytes, T3]
  | [], y :: ys, [] => by simp [Lib.compareBytes, T3]
  | [], y :: ys, z :: zs => by simp [Lib.compareBytes, T3]
  | x :: xs, [], c => by simp [Lib.compareBytes, T3]
  | x :: xs, y :: ys, [] => by simp [Lib.compareBytes, T3]
  | x :: xs, y :: ys, z :: zs => by
    have ih := t3_bytes xs ys zs
    rw [cb_cons, cb_cons, cb_cons]
    unfold T3 at *
    repeat' split
    all_goals first
      | exact ih
      | omega
def A2 (p q : Int) : Prop := q = -p ∧ -1 ≤ p ∧ p ≤ 1
theorem a2_or {p q p' q' : Int} (h : A2 p q) (h' : p = 0 → A2 p' q') : A2 (if (p == 0) = true then p' else p) (if (q == 0) = true then q' else q) := by
  unfold A2 at *
  simp only [beq_iff_eq]
  by_cases e1 : p = 0
  · have := h' e1
    rw [if_pos e1, if_pos (by omega)]
    exact this
  · rw [if_neg e1, if_neg (by omega)]
    exact h
theorem a2_cmpI (a b : Int) : A2 (cmpI a b) (cmpI b a) := by
  unfold cmpI A2
  simp only [decide_eq_true_eq]
  repeat' split
  all_goals omega
theorem a2_bytes : ∀ (a b : List UInt8), A2 (Lib.compareBytes a b) (Lib.compareBytes b a)
  | [], [] => by simp [Lib.compareBytes, A2]
  | [], y :: ys => by simp [Lib.compareBytes, A2]
  | x :: xs, [] => by simp [Lib.compareBytes, A2]
  | x :: xs, y :: ys => by
    have ih := a2_bytes xs ys
    rw [cb_cons, cb_cons]
    unfold A2 at *
    repeat' split
    all_goals first
      | exact ih
      | omega
theorem bytes_zero : ∀ (a b : List UInt8), Lib.compareBytes a b = 0 ↔ a = b
  | [], [] => by simp [Lib.compareBytes]
  | [], y :: ys => by simp [Lib.compareBytes]
  | x :: xs, [] => by simp [Lib.compareBytes]
  | x :: xs, y :: ys => by
    have ih := bytes_zero xs ys
    unfold Lib.compareBytes
    simp only [UInt8.lt_iff_toNat_lt, List.cons.injEq, ← UInt8.toNat_inj] at *
    split
    · constructor <;> intro h
      · omega
      · omega
    · split
      · constructor <;> intro h <;> omega
      · rw [ih]; constructor
        · intro h; exact ⟨by omega, h⟩
        · exact fun h => h.2

theorem t3_head (k : Int) (s : ByteArray) (n : Int) (l : List Tm) (k' : Int) (s' : ByteArray) (n' : Int) (l' : List Tm) (k'' : Int) (s'' : ByteArray) (n'' : Int) (l'' : List Tm) :
    T3 (headC k s n l k' s' n' l') (headC k' s' n' l' k'' s'' n'' l'') (headC k s n l k'' s'' n'' l'') := by
  unfold headC
  simp only [orL]
  exact t3_or (t3_cmpI _ _ _) fun _ _ => t3_or (t3_cmpI _ _ _) fun _ _ => t3_or (t3_bytes _ _ _) fun _ _ => t3_or (t3_cmpI _ _ _) fun _ _ => by simp [T3]
theorem a2_head (k : Int) (s : ByteArray) (n : Int) (l : List Tm) (k' : Int) (s' : ByteArray) (n' : Int) (l' : List Tm) :
    A2 (headC k s n l k' s' n' l') (headC k' s' n' l' k s n l) := by
  unfold headC
  simp only [orL]
  exact a2_or (a2_cmpI _ _) fun _ => a2_or (a2_cmpI _ _) fun _ => a2_or (a2_bytes _ _) fun _ => a2_or (a2_cmpI _ _) fun _ => by simp [A2]
theorem comp_swap (k : Int) (s : ByteArray) (n : Int) (l : List Tm) (k' : Int) (s' : ByteArray) (n' : Int) (l' : List Tm) :
    compT (.mk k s n l) (.mk k' s' n' l') = if (headC k s n l k' s' n' l' == 0) = true then compL l l' else headC k s n l k' s' n' l' := by rw [compT]
theorem t3_compT : ∀ (N : Nat) (a b c : Tm), SizeOf.sizeOf a < N → T3 (compT a b) (compT b c) (compT a c) := by
  intro N
  induction N with
  | zero => intro a b c h; omega
  | succ N ih =>
    have hl : ∀ (l m n : List Tm), SizeOf.sizeOf l < N + 1 → l.length = m.length → m.length = n.length → T3 (compL l m) (compL m n) (compL l n) := by
      intro l
      induction l with
      | nil =>
        intro m n _ h1 h2
        cases m with
        | nil => cases n with
          | nil => simp [compL, T3]
          | cons => simp at h2
        | cons => simp at h1
      | cons x l ihl =>
        intro m n hs h1 h2
        cases m with
        | nil => simp at h1
        | cons y m =>
        cases n with
        | nil => simp at h2
        | cons z n =>
        simp only [List.length_cons, Nat.add_right_cancel_iff, List.cons.sizeOf_spec] at h1 h2 hs
        rw [compL, compL, compL]
        exact t3_or (ih x y z (by omega)) fun _ _ => ihl m n (by omega) h1 h2
    rintro ⟨k, s, n, l⟩ ⟨k', s', n', l'⟩ ⟨k'', s'', n'', l''⟩ hs
    rw [comp_swap, comp_swap, comp_swap]
    simp only [Tm.mk.sizeOf_spec] at hs
    exact t3_or (t3_head k s n l k' s' n' l' k'' s'' n'' l'') fun h1 h2 => hl _ _ _ (by omega) (headC_len h1) (headC_len h2)
theorem a2_compT : ∀ (N : Nat) (a b : Tm), SizeOf.sizeOf a < N → A2 (compT a b) (compT b a) := by
  intro N
  induction N with
  | zero => intro a b h; omega
  | succ N ih =>
    have hl : ∀ (l m : List Tm), SizeOf.sizeOf l < N + 1 → l.length = m.length → A2 (compL l m) (compL m l) := by
      intro l
      induction l with
      | nil =>
        intro m _ h1
        cases m with
        | nil => simp [compL, A2]
        | cons => simp at h1
      | cons x l ihl =>
        intro m hs h1
        cases m with
        | nil => simp at h1
        | cons y m =>
        simp only [List.length_cons, Nat.add_right_cancel_iff, List.cons.sizeOf_spec] at h1 hs
        rw [compL, compL]
        exact a2_or (ih x y (by omega)) fun _ => ihl m (by omega) h1
    rintro ⟨k, s, n, l⟩ ⟨k', s', n', l'⟩ hs
    rw [comp_swap, comp_swap]
    simp only [Tm.mk.sizeOf_spec] at hs
    exact a2_or (a2_head ..) fun h1 => hl _ _ (by omega) (headC_len h1)

def bs3 (h : List AO) (x y z : Option AV) : Option (AV × List AO) := x.bind fun x => y.bind fun y => z.bind fun z => match x.cl, y.cl, z.cl with
  | some xs, some ys, some zs => if xs.length = 4 ∧ ys.length = 4 ∧ zs.length = 4 then some (.slc 4 true true [x, y, z], h) else none
  | _, _, _ => none
theorem e_bslice3 {call : CallF} {vars env : List AV} {h : List AO} {zero : List Value} {x y z : Opd} : evOp call vars env h (.bslice 4 zero 3 [(0, x), (1, y), (2, z)]) = bs3 h ((getO vars env x).snap1 h) ((getO vars env y).snap1 h) ((getO vars env z).snap1 h) := by
  simp only [evOp, evElems, bs3]
  cases (getO vars env x).snap1 h with
  | none => rfl
  | some x =>
    simp only [Option.bind_some]
    cases x.cl with
    | none => cases (getO vars env y).snap1 h with
      | none => rfl
      | some y => cases (getO vars env z).snap1 h <;> rfl
    | some xs =>
      simp only [Option.map_some]
      cases (getO vars env y).snap1 h with
      | none => simp; try rfl
      | some y =>
        simp only [Option.bind_some]
        cases y.cl with
        | none => cases (getO vars env z).snap1 h <;> simp
        | some ys =>
          cases (getO vars env z).snap1 h with
          | none => simp
          | some z =>
            simp only [Option.map_some, Option.bind_some]
            cases z.cl with
            | none => simp
            | some zs =>
              by_cases e1 : xs.length = 4 <;> by_cases e2 : ys.length = 4 <;> by_cases e3 : zs.length = 4 <;> simp [e1, e2, e3, List.replicate]
theorem orders_ok {a b c : AV} {t u v : Tm} (ha : IsT a t) (hb : IsT b u) (hc : IsT c v) : callW F 5 [a, b, c] [] = some (.v (.bool true), []) := by
  refine callW_pure (c := c5) rfl rfl 0 ?_
  have hlive := live_ok
  have hfa := ha.facts
  have hfb := hb.facts
  have hfc := hc.facts
  have hbig := big_ok (isL3 ha hb hc)
  have bxa : bx [] 24 (some a.cells) = some (.ptr 0 0, [.box 24 a.cells]) := rfl
  have bxb : bx [.box 24 a.cells] 24 (some b.cells) = some (.ptr 1 0, [.box 24 a.cells, .box 24 b.cells]) := rfl
  have bxc : bx [.box 24 a.cells, .box 24 b.cells] 24 (some c.cells) = some (.ptr 2 0, [.box 24 a.cells, .box 24 b.cells, .box 24 c.cells]) := rfl
  have e1 : Q76 [.box 24 a.cells, .box 24 b.cells, .box 24 c.cells] true 4 (.ptr 0 0) = some a := hfa.2.2.2.1 [] 24
  have e2 : Q76 [.box 24 a.cells, .box 24 b.cells, .box 24 c.cells] true 4 (.ptr 1 0) = some b := hfb.2.2.2.1 [.box 24 a.cells] 24
  have e3 : Q76 [.box 24 a.cells, .box 24 b.cells, .box 24 c.cells] true 4 (.ptr 2 0) = some c := hfc.2.2.2.1 [.box 24 a.cells, .box 24 b.cells] 24
  have p1 := check_ok t a ha
  have p2 := check_ok u b hb
  have p3 := check_ok v c hc
  have c1 := comp_ok _ t u a b (Nat.lt_succ_self _) ha hb
  have c2 := comp_ok _ u v b c (Nat.lt_succ_self _) hb hc
  have c3 := comp_ok _ t v a c (Nat.lt_succ_self _) ha hc
  have tr := t3_compT _ t u v (Nat.lt_succ_self _)
  unfold T3 at tr
  have b3 : ∀ h : List AO, bs3 h (some a) (some b) (some c) = some (.slc 4 true true [a, b, c], h) := by
    intro h
    obtain ⟨x1, x2⟩ := ha.cl
    obtain ⟨y1, y2⟩ := hb.cl
    obtain ⟨z1, z2⟩ := hc.cl
    simp [bs3, x1, y1, z1, x2, y2, z2]
  have sl : ∀ h : List AO, (AV.slc 4 true true [a, b, c]).snap1 h = some (.slc 4 true true [a, b, c]) := fun _ => rfl
  cases hB : bigT [t, u, v] with
  | true => rw [hB] at hbig; simp only [c5, start, List.replicate, c5_0, c5_1, c5_2, c5_3, hlive, hfa, hfb, hfc, bxa, bxb, bxc, e1, e2, e3, b3, sl, hbig, e_bslice3, Q0, Q1, Q2, Q3, Q4, Q5, Q6, Q7, Q8, Q9, Q10, Q11, Q12, Q13, Q14, Q15, Q16, Q17, Q18, Q19, Q20, Q21, Q22, Q23, Q24, Q25, Q26, Q27, Q28, Q29, Q30, Q31, Q32, Q33, Q35, Q36, Q37, Q38, Q39, Q40, Q41, Q42, Q43, Q44, Q45, Q46, Q47, Q48, Q49, Q50, Q51, Q52, Q53, Q54, Q55, Q56, Q57, Q58, Q59, Q60, Q61, Q62, Q63, Q64, Q65, Q66, Q67, Q68, Q69, Q70, Q71, Q72, Q73, Q99, Q100, Q101, Q102, Q103, Q74, Q75, Q77, Q78, Q79, Q80, Q81, Q82, Q83, Q84, clr, List.length_nil, List.length_cons, List.getElem?_cons_zero, List.getElem?_cons_succ, Nat.reduceAdd, Nat.zero_add, Nat.add_zero, Nat.reduceLeDiff, Nat.reduceSub, ↓reduceIte, List.drop_succ_cons, List.drop_zero, List.take_succ_cons, List.take_zero, Bool.false_eq_true, List.nil_append, List.cons_append, Bool.not_true, Bool.not_false, cond_true, cond_false, bne, Q85, Q86, Q87, Q88, Q89, Q90, Q91, Q92, Q93, Q94, Q95, Q96, Q97, Q98, Q110, Q111, Q116, Q117, Q118, Q119, Q120, Q121, Q122, Q123, Option.map_some, Option.map_none]
  | false =>
  rw [hB] at hbig
  generalize checkT t = k1 at p1
  generalize checkT u = k2 at p2
  generalize checkT v = k3 at p3
  generalize compT t u = x1 at c1 tr
  generalize compT u v = x2 at c2 tr
  generalize compT t v = x3 at c3 tr
  have fin : decide (x1 > 0) = false → decide (x2 > 0) = false → decide (x3 ≤ 0) = true := by
    simp only [decide_eq_false_iff_not, decide_eq_true_eq]
    intro h1 h2
    exact (tr (by omega) (by omega)).1
  cases g1 : (k1 == 0) <;> cases g2 : (k2 == 0) <;> cases g3 : (k3 == 0) <;>
  cases q1 : decide (x1 > 0) <;> cases q2 : decide (x2 > 0) <;> cases q3 : decide (x3 ≤ 0) <;>
  first
  | exact Bool.noConfusion ((fin q1 q2).symm.trans q3)
  | simp only [c5, start, List.replicate, c5_0, c5_1, c5_2, c5_3, c5_4, hlive, hfa, hfb, hfc, bxa, bxb, bxc, e1, e2, e3, b3, sl, hbig, e_bslice3, p1, p2, p3, c1, c2, c3, g1, g2, g3, q1, q2, q3, Bool.not_true, Bool.not_false, Q0, Q1, Q2, Q3, Q4, Q5, Q6, Q7, Q8, Q9, Q10, Q11, Q12, Q13, Q14, Q15, Q16, Q17, Q18, Q19, Q20, Q21, Q22, Q23, Q24, Q25, Q26, Q27, Q28, Q29, Q30, Q31, Q32, Q33, Q35, Q36, Q37, Q38, Q39, Q40, Q41, Q42, Q43, Q44, Q45, Q46, Q47, Q48, Q49, Q50, Q51, Q52, Q53, Q54, Q55, Q56, Q57, Q58, Q59, Q60, Q61, Q62, Q63, Q64, Q65, Q66, Q67, Q68, Q69, Q70, Q71, Q72, Q73, Q99, Q100, Q101, Q102, Q103, Q74, Q75, Q77, Q78, Q79, Q80, Q81, Q82, Q83, Q84, clr, List.length_nil, List.length_cons, List.getElem?_cons_zero, List.getElem?_cons_succ, Nat.reduceAdd, Nat.zero_add, Nat.add_zero, Nat.reduceLeDiff, Nat.reduceSub, ↓reduceIte, List.drop_succ_cons, List.drop_zero, List.take_succ_cons, List.take_zero, Bool.false_eq_true, List.nil_append, List.cons_append, Bool.not_true, Bool.not_false, cond_true, cond_false, bne, Q85, Q86, Q87, Q88, Q89, Q90, Q91, Q92, Q93, Q94, Q95, Q96, Q97, Q98, Q110, Q111, Q116, Q117, Q118, Q119, Q120, Q121, Q122, Q123, Option.map_some, Option.map_none]
end Go.AE.YtgcbaefclkfnoaaDoor
end
