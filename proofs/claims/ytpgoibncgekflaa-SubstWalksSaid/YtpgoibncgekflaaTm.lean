/- Terms; Same. -/
import Derived.Test.YtpgoibncgekflaaTab
import Derived.Test.YtpgoibncgekflaaAexSym
set_option linter.unusedVariables false
set_option linter.unusedSimpArgs false
namespace Go.AE.Ytpgoibncgekflaa
open Go Go.AE Go.Proofs.Ytpgoibncgekflaa

inductive Tm where
  | mk (k : Int) (s : ByteArray) (n : Int) (l : List Tm)

mutual
inductive IsT : AV → Tm → Prop
  | mk (k : Int) (s : ByteArray) (n : Int) (c : AV) (l : List Tm) (h : IsL c l) : IsT (.agg [.v (.int .i64 k), .v (.string s), .v (.int .i64 n), c]) (.mk k s n l)
inductive IsL : AV → List Tm → Prop
  | nil : IsL (.v (.slice none 0 0)) []
  | slc (ex nn : Bool) (es : List AV) (l : List Tm) (h : All2 es l) (hb : es.length ≤ maxLen) : IsL (.slc 4 ex nn es) l
inductive All2 : List AV → List Tm → Prop
  | nil : All2 [] []
  | cons (a : AV) (t : Tm) (es : List AV) (ts : List Tm) (h : IsT a t) (hs : All2 es ts) : All2 (a :: es) (t :: ts)
end

theorem All2.length : ∀ {es : List AV} {l : List Tm}, All2 es l → es.length = l.length
  | _, _, .nil => rfl
  | _, _, .cons _ _ _ _ _ hs => by simp [hs.length]
theorem All2.get : ∀ {es : List AV} {l : List Tm}, All2 es l → ∀ {i : Nat} {e : AV}, es[i]? = some e → ∃ t, l[i]? = some t ∧ IsT e t
  | _, _, .nil, i, e, h => by simp at h
  | _, _, .cons a t es ts h hs, i, e, he => by
    cases i with
    | zero => simp at he; subst he; exact ⟨t, rfl, h⟩
    | succ i => exact hs.get (by simpa using he)

mutual
def same : Tm → Tm → Bool
  | .mk k s n l, .mk k' s' n' l' => k == k' && s.toList == s'.toList && n == n' && l.length == l'.length && sameL l l'
def sameL : List Tm → List Tm → Bool
  | [], _ => true
  | _, [] => true
  | a :: l, b :: l' => same a b && sameL l l'
end

noncomputable abbrev W : CallF := callW F


theorem IsT.snap {h : List AO} {a : AV} {t : Tm} (ht : IsT a t) : a.snap1 h = some a := by
  cases ht with
  | mk k s n c l hc => cases hc <;> rfl
theorem IsT.load {h : List AO} {a : AV} {t : Tm} (ht : IsT a t) : evLoad h true 4 (.ip a.cells) = some a := by
  cases ht with
  | mk k s n c l hc => rfl

def hp2 (a b : AV) : List AO := [.box a.cells, .box b.cells]

/-- what the loop of Same meets -/
def L15 (len i : Int) : List AV := [.junk, .junk, .ptr 0 0, .ptr 1 0, .junk, .junk, .junk, .v (.int .i64 len), .v (.int .i64 i), .junk, .junk]
def K15 : List Bool := [false, false, true, true, false, false, false, true, true, false, false]

theorem same_step {K : Nat} {a b : AV} {k k' n n' : Int} {s s' : ByteArray} {ex nn ex' nn' : Bool} {es es' : List AV} (ha : a = .agg [.v (.int .i64 k), .v (.string s), .v (.int .i64 n), .slc 4 ex nn es]) (hb : b = .agg [.v (.int .i64 k'), .v (.string s'), .v (.int .i64 n'), .slc 4 ex' nn' es'])
    {i : Nat} {e e' : AV} {t t' : Tm} (he : es[i]? = some e) (he' : es'[i]? = some e') (ht : IsT e t) (ht' : IsT e' t') {r : Bool} (hc : W 15 [e, e'] [] = some (.v (.bool r), [])) :
    exec W K c15_9 (L15 es.length i) (hp2 a b) = some (if r then .normal else .ret, [.junk, .junk, .ptr 0 0, .ptr 1 0, if r then .junk else .v (.bool false), .v (.int .i64 i), .junk, .v (.int .i64 es.length), .v (.int .i64 (if r then IntKind.i64.wrap (i + 1) else i)), .v (.bool true), .v (.bool !r)], hp2 a b) := by
  have hlt : (decide ((i : Int) < (es.length : Int))) = true := by
    have := (List.getElem?_eq_some_iff.1 he).1
    simp; omega
  have q5 : ∀ h : List AO, e.snap1 h = some e := fun h => ht.snap
  have q6 : ∀ h : List AO, e'.snap1 h = some e' := fun h => ht'.snap
  subst ha hb
  have hc' : callW F 15 [e, e'] [] = some (.v (.bool r), []) := hc
  cases ht
  cases ht'
  have q1 : ∀ h, iaV h 4 (.slc 4 ex nn es) (some i) = _ := fun h => iaV_slc he
  have q2 : ∀ h, iaV h 4 (.slc 4 ex' nn' es') (some i) = _ := fun h => iaV_slc he'
  cases r
  · simp only [L15, hp2, AV.cells, c15_9, c15_4, c15_5, c15_6, c15_7, c15_8, hlt, q1, q2, q5, q6, hc', run_nil, run_cons, stp_plain, stp_guard, put_some, pass_eq, pick_tt, pick_ff, pick_tf, pick_ft, pick_u, reg_some, thn_normal, thn_exit, thn_ret, cnd_t, cnd_f, blk_normal, blk_ret, blk_exit, x_seq, x_region, x_cond, x_block, x_loop, x_ret, x_exit, x_skip, e_mov, e_pick, pk_t, pk_f, withH_some, e_box, bx_some, e_load, e_store, stH_some, e_nil, e_bin, e_eqv, eqH_f, eqH_t, e_un, e_fa, e_ia, ia_eq, nat_eq, natV_nat, e_len, lnH_some, e_extract, ex_0, ex_1, e_call0, e_call1, e_call2, e_call3, pc0_eq, pc1_some, pc2_some, pc3_some, fin_some, g_var0, g_vars, g_loc0, g_locs, g_int, g_bool, g_str, g_sl, s_none, s_zero, s_succ, AV.cl, evFa, evNil, evLoad, asEl, evBin, intBin, strBin, evUn, len_nil, len_slc, len_str, clr, List.length_nil, List.length_cons, List.getElem?_cons_zero, List.getElem?_cons_succ, Nat.reduceAdd, Nat.zero_add, Nat.add_zero, Nat.reduceLeDiff, Nat.reduceSub, ↓reduceIte, List.drop_succ_cons, List.drop_zero, List.take_succ_cons, List.take_zero, Bool.false_eq_true, List.nil_append, List.cons_append, Bool.not_true, Bool.not_false, cond_true, cond_false, bne]
  · simp only [L15, hp2, AV.cells, c15_9, c15_4, c15_5, c15_6, c15_7, c15_8, hlt, q1, q2, q5, q6, hc', run_nil, run_cons, stp_plain, stp_guard, put_some, pass_eq, pick_tt, pick_ff, pick_tf, pick_ft, pick_u, reg_some, thn_normal, thn_exit, thn_ret, cnd_t, cnd_f, blk_normal, blk_ret, blk_exit, x_seq, x_region, x_cond, x_block, x_loop, x_ret, x_exit, x_skip, e_mov, e_pick, pk_t, pk_f, withH_some, e_box, bx_some, e_load, e_store, stH_some, e_nil, e_bin, e_eqv, eqH_f, eqH_t, e_un, e_fa, e_ia, ia_eq, nat_eq, natV_nat, e_len, lnH_some, e_extract, ex_0, ex_1, e_call0, e_call1, e_call2, e_call3, pc0_eq, pc1_some, pc2_some, pc3_some, fin_some, g_var0, g_vars, g_loc0, g_locs, g_int, g_bool, g_str, g_sl, s_none, s_zero, s_succ, AV.cl, evFa, evNil, evLoad, asEl, evBin, intBin, strBin, evUn, len_nil, len_slc, len_str, clr, List.length_nil, List.length_cons, List.getElem?_cons_zero, List.getElem?_cons_succ, Nat.reduceAdd, Nat.zero_add, Nat.add_zero, Nat.reduceLeDiff, Nat.reduceSub, ↓reduceIte, List.drop_succ_cons, List.drop_zero, List.take_succ_cons, List.take_zero, Bool.false_eq_true, List.nil_append, List.cons_append, Bool.not_true, Bool.not_false, cond_true, cond_false, bne]

theorem wrap_ok {n : Int} (h0 : 0 ≤ n) (h1 : n ≤ 9223372036854775807) : IntKind.i64.wrap n = n := IntWalk.i64_in (by omega) (by omega)

theorem same_loop {K : Nat} {a b : AV} {k k' n n' : Int} {s s' : ByteArray} {ex nn ex' nn' : Bool} {es es' : List AV} (ha : a = .agg [.v (.int .i64 k), .v (.string s), .v (.int .i64 n), .slc 4 ex nn es]) (hb : b = .agg [.v (.int .i64 k'), .v (.string s'), .v (.int .i64 n'), .slc 4 ex' nn' es'])
    (hlen : es.length = es'.length) (hmax : es.length ≤ maxLen) (R : Nat → Bool) (hall : ∀ (i : Nat) (e e' : AV), es[i]? = some e → es'[i]? = some e' → ∃ t t', IsT e t ∧ IsT e' t' ∧ W 15 [e, e'] [] = some (.v (.bool (R i)), [])) :
    ∀ (d i : Nat), i + d = es.length → ∀ (vars : List AV), clr K15 vars = L15 es.length i →
      loopN (exec W K c15_9) K15 (d + 1) vars (hp2 a b) = some (.exit 0, [.junk, .junk, .ptr 0 0, .ptr 1 0, .junk, .junk, .junk, .v (.int .i64 es.length), .v (.int .i64 es.length), .v (.bool false), .junk], hp2 a b) ∧ (∀ j, i ≤ j → j < es.length → R j = true) ∨
      ∃ j : Nat, loopN (exec W K c15_9) K15 (d + 1) vars (hp2 a b) = some (.ret, [.junk, .junk, .ptr 0 0, .ptr 1 0, .v (.bool false), .v (.int .i64 j), .junk, .v (.int .i64 es.length), .v (.int .i64 j), .v (.bool true), .v (.bool true)], hp2 a b) ∧ j < es.length ∧ R j = false := by
  intro d
  induction d with
  | zero =>
    intro i hi vars hv
    left
    have hil : i = es.length := by omega
    subst hil
    refine ⟨?_, fun j h1 h2 => by omega⟩
    refine loop_exit ?_
    rw [hv]
    have hlt : decide ((es.length : Int) < (es.length : Int)) = false := by simp
    simp only [L15, c15_9, c15_4, hlt, run_nil, run_cons, stp_plain, stp_guard, put_some, pass_eq, pick_tt, pick_ff, pick_tf, pick_ft, pick_u, reg_some, thn_normal, thn_exit, thn_ret, cnd_t, cnd_f, blk_normal, blk_ret, blk_exit, x_seq, x_region, x_cond, x_block, x_loop, x_ret, x_exit, x_skip, e_mov, e_pick, pk_t, pk_f, withH_some, e_box, bx_some, e_load, e_store, stH_some, e_nil, e_bin, e_eqv, eqH_f, eqH_t, e_un, e_fa, e_ia, ia_eq, nat_eq, natV_nat, e_len, lnH_some, e_extract, ex_0, ex_1, e_call0, e_call1, e_call2, e_call3, pc0_eq, pc1_some, pc2_some, pc3_some, fin_some, g_var0, g_vars, g_loc0, g_locs, g_int, g_bool, g_str, g_sl, s_none, s_zero, s_succ, AV.cl, evFa, evNil, evLoad, asEl, evBin, intBin, strBin, evUn, len_nil, len_slc, len_str, clr, List.length_nil, List.length_cons, List.getElem?_cons_zero, List.getElem?_cons_succ, Nat.reduceAdd, Nat.zero_add, Nat.add_zero, Nat.reduceLeDiff, Nat.reduceSub, ↓reduceIte, List.drop_succ_cons, List.drop_zero, List.take_succ_cons, List.take_zero, Bool.false_eq_true, List.nil_append, List.cons_append, Bool.not_true, Bool.not_false, cond_true, cond_false, bne]
  | succ d ih =>
    intro i hi vars hv
    have he : es[i]? = some (es[i]'(by omega)) := List.getElem?_eq_getElem _
    have he' : es'[i]? = some (es'[i]'(by omega)) := List.getElem?_eq_getElem _
    obtain ⟨t, t', ht, ht', hc⟩ := hall i _ _ he he'
    have st := same_step (K := K) ha hb he he' ht ht' hc
    cases hR : R i with
    | false =>
      right
      rw [hR] at st
      refine ⟨i, ?_, by omega, hR⟩
      refine loop_ret ?_
      rw [hv]; exact st
    | true =>
      rw [hR] at st
      have hw : IntKind.i64.wrap ((i : Int) + 1) = ((i + 1 : Nat) : Int) := by
        rw [wrap_ok (by omega) (by have : maxLen = 9223372036854775807 := rfl; omega)]; simp
      simp only [if_true, hw] at st
      rw [loop_normal (by rw [hv]; exact st)]
      rcases ih (i + 1) (by omega) [.junk, .junk, .ptr 0 0, .ptr 1 0, .junk, .v (.int .i64 i), .junk, .v (.int .i64 es.length), .v (.int .i64 ((i + 1 : Nat) : Int)), .v (.bool true), .v (.bool !true)] rfl with ⟨h1, h2⟩ | ⟨j, h1, h2, h3⟩
      · left
        refine ⟨h1, fun j hj1 hj2 => ?_⟩
        rcases Nat.lt_or_ge i j with h | h
        · exact h2 j h hj2
        · rw [show j = i by omega]; exact hR
      · exact .inr ⟨j, h1, h2, h3⟩

mutual
theorem sameL_iff : ∀ (l l' : List Tm), sameL l l' = true ↔ ∀ (i : Nat) (t t' : Tm), l[i]? = some t → l'[i]? = some t' → same t t' = true
  | [], l' => by simp [sameL]
  | a :: l, [] => by simp [sameL]
  | a :: l, b :: l' => by
    rw [sameL, Bool.and_eq_true, sameL_iff l l']
    constructor
    · rintro ⟨h1, h2⟩ i t t' e e'
      cases i with
      | zero => simp at e e'; subst e; subst e'; exact h1
      | succ i => exact h2 i t t' (by simpa using e) (by simpa using e')
    · intro h
      exact ⟨h 0 a b rfl rfl, fun i t t' e e' => h (i + 1) t t' (by simpa using e) (by simpa using e')⟩
end

theorem same_ok : ∀ (N : Nat) (t t' : Tm) (a b : AV), SizeOf.sizeOf t < N → IsT a t → IsT b t' → W 15 [a, b] [] = some (.v (.bool (same t t')), []) := by
  intro N
  induction N with
  | zero => intro t t' a b h; omega
  | succ N ih =>
    intro t t' a b hN ha hb
    cases ha with
    | mk k s n c l hc =>
    cases hb with
    | mk k' s' n' c' l' hc' =>
    have len1 : ∀ h, evLen h .slice c = some l.length := by
      intro h; cases hc with
      | nil => rfl
      | slc ex nn es l h1 h2 => rw [← h1.length]; rfl
    have len2 : ∀ h, evLen h .slice c' = some l'.length := by
      intro h; cases hc' with
      | nil => rfl
      | slc ex nn es l h1 h2 => rw [← h1.length]; rfl
    rw [same]
    cases h1 : (k == k') with
    | false =>
      refine callW_pure (c := c15) rfl rfl 0 ?_
      simp only [c15, start, List.replicate, c15_0, c15_1, c15_2, h1, Bool.false_and, run_nil, run_cons, stp_plain, stp_guard, put_some, pass_eq, pick_tt, pick_ff, pick_tf, pick_ft, pick_u, reg_some, thn_normal, thn_exit, thn_ret, cnd_t, cnd_f, blk_normal, blk_ret, blk_exit, x_seq, x_region, x_cond, x_block, x_loop, x_ret, x_exit, x_skip, e_mov, e_pick, pk_t, pk_f, withH_some, e_box, bx_some, e_load, e_store, stH_some, e_nil, e_bin, e_eqv, eqH_f, eqH_t, e_un, e_fa, e_ia, ia_eq, nat_eq, natV_nat, e_len, lnH_some, e_extract, ex_0, ex_1, e_call0, e_call1, e_call2, e_call3, pc0_eq, pc1_some, pc2_some, pc3_some, fin_some, g_var0, g_vars, g_loc0, g_locs, g_int, g_bool, g_str, g_sl, s_none, s_zero, s_succ, AV.cl, evFa, evNil, evLoad, asEl, evBin, intBin, strBin, evUn, len_nil, len_slc, len_str, clr, List.length_nil, List.length_cons, List.getElem?_cons_zero, List.getElem?_cons_succ, Nat.reduceAdd, Nat.zero_add, Nat.add_zero, Nat.reduceLeDiff, Nat.reduceSub, ↓reduceIte, List.drop_succ_cons, List.drop_zero, List.take_succ_cons, List.take_zero, Bool.false_eq_true, List.nil_append, List.cons_append, Bool.not_true, Bool.not_false, cond_true, cond_false, bne, lv_ret, lv_normal, res1, res2, lv2_some, res_var, res_cell, lvf_v, lvf_slc]
    | true =>
    cases h2 : (s.toList == s'.toList) with
    | false =>
      refine callW_pure (c := c15) rfl rfl 0 ?_
      simp only [c15, start, List.replicate, c15_0, c15_1, c15_2, h1, h2, Bool.false_and, Bool.true_and, run_nil, run_cons, stp_plain, stp_guard, put_some, pass_eq, pick_tt, pick_ff, pick_tf, pick_ft, pick_u, reg_some, thn_normal, thn_exit, thn_ret, cnd_t, cnd_f, blk_normal, blk_ret, blk_exit, x_seq, x_region, x_cond, x_block, x_loop, x_ret, x_exit, x_skip, e_mov, e_pick, pk_t, pk_f, withH_some, e_box, bx_some, e_load, e_store, stH_some, e_nil, e_bin, e_eqv, eqH_f, eqH_t, e_un, e_fa, e_ia, ia_eq, nat_eq, natV_nat, e_len, lnH_some, e_extract, ex_0, ex_1, e_call0, e_call1, e_call2, e_call3, pc0_eq, pc1_some, pc2_some, pc3_some, fin_some, g_var0, g_vars, g_loc0, g_locs, g_int, g_bool, g_str, g_sl, s_none, s_zero, s_succ, AV.cl, evFa, evNil, evLoad, asEl, evBin, intBin, strBin, evUn, len_nil, len_slc, len_str, clr, List.length_nil, List.length_cons, List.getElem?_cons_zero, List.getElem?_cons_succ, Nat.reduceAdd, Nat.zero_add, Nat.add_zero, Nat.reduceLeDiff, Nat.reduceSub, ↓reduceIte, List.drop_succ_cons, List.drop_zero, List.take_succ_cons, List.take_zero, Bool.false_eq_true, List.nil_append, List.cons_append, Bool.not_true, Bool.not_false, cond_true, cond_false, bne, lv_ret, lv_normal, res1, res2, lv2_some, res_var, res_cell, lvf_v, lvf_slc]
    | true =>
    cases h3 : (n == n') with
    | false =>
      refine callW_pure (c := c15) rfl rfl 0 ?_
      simp only [c15, start, List.replicate, c15_0, c15_1, c15_2, h1, h2, h3, Bool.false_and, Bool.true_and, run_nil, run_cons, stp_plain, stp_guard, put_some, pass_eq, pick_tt, pick_ff, pick_tf, pick_ft, pick_u, reg_some, thn_normal, thn_exit, thn_ret, cnd_t, cnd_f, blk_normal, blk_ret, blk_exit, x_seq, x_region, x_cond, x_block, x_loop, x_ret, x_exit, x_skip, e_mov, e_pick, pk_t, pk_f, withH_some, e_box, bx_some, e_load, e_store, stH_some, e_nil, e_bin, e_eqv, eqH_f, eqH_t, e_un, e_fa, e_ia, ia_eq, nat_eq, natV_nat, e_len, lnH_some, e_extract, ex_0, ex_1, e_call0, e_call1, e_call2, e_call3, pc0_eq, pc1_some, pc2_some, pc3_some, fin_some, g_var0, g_vars, g_loc0, g_locs, g_int, g_bool, g_str, g_sl, s_none, s_zero, s_succ, AV.cl, evFa, evNil, evLoad, asEl, evBin, intBin, strBin, evUn, len_nil, len_slc, len_str, clr, List.length_nil, List.length_cons, List.getElem?_cons_zero, List.getElem?_cons_succ, Nat.reduceAdd, Nat.zero_add, Nat.add_zero, Nat.reduceLeDiff, Nat.reduceSub, ↓reduceIte, List.drop_succ_cons, List.drop_zero, List.take_succ_cons, List.take_zero, Bool.false_eq_true, List.nil_append, List.cons_append, Bool.not_true, Bool.not_false, cond_true, cond_false, bne, lv_ret, lv_normal, res1, res2, lv2_some, res_var, res_cell, lvf_v, lvf_slc]
    | true =>
    cases h4 : (l.length == l'.length) with
    | false =>
      have h4' : ((l.length : Int) == (l'.length : Int)) = false := by have := h4; simp at this ⊢; omega
      refine callW_pure (c := c15) rfl rfl 0 ?_
      simp only [c15, start, List.replicate, c15_0, c15_1, c15_2, h1, h2, h3, h4', len1, len2, Bool.false_and, Bool.true_and, run_nil, run_cons, stp_plain, stp_guard, put_some, pass_eq, pick_tt, pick_ff, pick_tf, pick_ft, pick_u, reg_some, thn_normal, thn_exit, thn_ret, cnd_t, cnd_f, blk_normal, blk_ret, blk_exit, x_seq, x_region, x_cond, x_block, x_loop, x_ret, x_exit, x_skip, e_mov, e_pick, pk_t, pk_f, withH_some, e_box, bx_some, e_load, e_store, stH_some, e_nil, e_bin, e_eqv, eqH_f, eqH_t, e_un, e_fa, e_ia, ia_eq, nat_eq, natV_nat, e_len, lnH_some, e_extract, ex_0, ex_1, e_call0, e_call1, e_call2, e_call3, pc0_eq, pc1_some, pc2_some, pc3_some, fin_some, g_var0, g_vars, g_loc0, g_locs, g_int, g_bool, g_str, g_sl, s_none, s_zero, s_succ, AV.cl, evFa, evNil, evLoad, asEl, evBin, intBin, strBin, evUn, len_nil, len_slc, len_str, clr, List.length_nil, List.length_cons, List.getElem?_cons_zero, List.getElem?_cons_succ, Nat.reduceAdd, Nat.zero_add, Nat.add_zero, Nat.reduceLeDiff, Nat.reduceSub, ↓reduceIte, List.drop_succ_cons, List.drop_zero, List.take_succ_cons, List.take_zero, Bool.false_eq_true, List.nil_append, List.cons_append, Bool.not_true, Bool.not_false, cond_true, cond_false, bne, lv_ret, lv_normal, res1, res2, lv2_some, res_var, res_cell, lvf_v, lvf_slc]
    | true =>
      have h4n : l.length = l'.length := by simpa using h4
      have h4' : ((l.length : Int) == (l'.length : Int)) = true := by simp [h4n]
      refine callW_pure (c := c15) rfl rfl (l.length + 1) ?_
      rcases Nat.eq_zero_or_pos l.length with h0 | h0
      · have e0 : ((l.length : Nat) : Int) = 0 := by omega
        have h40 : ((0 : Int) == (l'.length : Int)) = true := by simp; omega
        have hl : ∀ (K : Nat) (vars : List AV) (h : List AO), clr [false, false, true, true, false, false, false, true, true, false, false] vars = [.junk, .junk, .ptr 0 0, .ptr 1 0, .junk, .junk, .junk, .v (.int .i64 0), .v (.int .i64 0), .junk, .junk] →
            loopN (exec (callW F) K c15_9) [false, false, true, true, false, false, false, true, true, false, false] 1 vars h = some (.exit 0, [.junk, .junk, .ptr 0 0, .ptr 1 0, .junk, .junk, .junk, .v (.int .i64 0), .v (.int .i64 0), .v (.bool false), .junk], h) := by
          intro K vars h hv
          refine loop_exit (n := 0) ?_
          rw [hv]
          have hlt : decide ((0 : Int) < 0) = false := by simp
          simp only [c15_9, c15_4, hlt, run_nil, run_cons, stp_plain, stp_guard, put_some, pass_eq, pick_tt, pick_ff, pick_tf, pick_ft, pick_u, reg_some, thn_normal, thn_exit, thn_ret, cnd_t, cnd_f, blk_normal, blk_ret, blk_exit, x_seq, x_region, x_cond, x_block, x_loop, x_ret, x_exit, x_skip, e_mov, e_pick, pk_t, pk_f, withH_some, e_box, bx_some, e_load, e_store, stH_some, e_nil, e_bin, e_eqv, eqH_f, eqH_t, e_un, e_fa, e_ia, ia_eq, nat_eq, natV_nat, e_len, lnH_some, e_extract, ex_0, ex_1, e_call0, e_call1, e_call2, e_call3, pc0_eq, pc1_some, pc2_some, pc3_some, fin_some, g_var0, g_vars, g_loc0, g_locs, g_int, g_bool, g_str, g_sl, s_none, s_zero, s_succ, AV.cl, evFa, evNil, evLoad, asEl, evBin, intBin, strBin, evUn, len_nil, len_slc, len_str, clr, List.length_nil, List.length_cons, List.getElem?_cons_zero, List.getElem?_cons_succ, Nat.reduceAdd, Nat.zero_add, Nat.add_zero, Nat.reduceLeDiff, Nat.reduceSub, ↓reduceIte, List.drop_succ_cons, List.drop_zero, List.take_succ_cons, List.take_zero, Bool.false_eq_true, List.nil_append, List.cons_append, Bool.not_true, Bool.not_false, cond_true, cond_false, bne, lv_ret, lv_normal, res1, res2, lv2_some, res_var, res_cell, lvf_v, lvf_slc]
        have hs : sameL l l' = true := by
          have : l = [] := List.length_eq_zero_iff.1 h0
          subst this; simp [sameL]
        rw [h0, hs]
        simp only [c15, start, List.replicate, c15_0, c15_1, c15_2, c15_3, c15_10, h1, h2, h3, h40, len1, len2, e0, Bool.false_and, Bool.true_and, run_nil, run_cons, stp_plain, stp_guard, put_some, pass_eq, pick_tt, pick_ff, pick_tf, pick_ft, pick_u, reg_some, thn_normal, thn_exit, thn_ret, cnd_t, cnd_f, blk_normal, blk_ret, blk_exit, x_seq, x_region, x_cond, x_block, x_loop, x_ret, x_exit, x_skip, e_mov, e_pick, pk_t, pk_f, withH_some, e_box, bx_some, e_load, e_store, stH_some, e_nil, e_bin, e_eqv, eqH_f, eqH_t, e_un, e_fa, e_ia, ia_eq, nat_eq, natV_nat, e_len, lnH_some, e_extract, ex_0, ex_1, e_call0, e_call1, e_call2, e_call3, pc0_eq, pc1_some, pc2_some, pc3_some, fin_some, g_var0, g_vars, g_loc0, g_locs, g_int, g_bool, g_str, g_sl, s_none, s_zero, s_succ, AV.cl, evFa, evNil, evLoad, asEl, evBin, intBin, strBin, evUn, len_nil, len_slc, len_str, clr, List.length_nil, List.length_cons, List.getElem?_cons_zero, List.getElem?_cons_succ, Nat.reduceAdd, Nat.zero_add, Nat.add_zero, Nat.reduceLeDiff, Nat.reduceSub, ↓reduceIte, List.drop_succ_cons, List.drop_zero, List.take_succ_cons, List.take_zero, Bool.false_eq_true, List.nil_append, List.cons_append, Bool.not_true, Bool.not_false, cond_true, cond_false, bne, lv_ret, lv_normal, res1, res2, lv2_some, res_var, res_cell, lvf_v, lvf_slc]
        rw [hl 1 _ _ (by rfl)]
        simp only [run_nil, run_cons, stp_plain, stp_guard, put_some, pass_eq, pick_tt, pick_ff, pick_tf, pick_ft, pick_u, reg_some, thn_normal, thn_exit, thn_ret, cnd_t, cnd_f, blk_normal, blk_ret, blk_exit, x_seq, x_region, x_cond, x_block, x_loop, x_ret, x_exit, x_skip, e_mov, e_pick, pk_t, pk_f, withH_some, e_box, bx_some, e_load, e_store, stH_some, e_nil, e_bin, e_eqv, eqH_f, eqH_t, e_un, e_fa, e_ia, ia_eq, nat_eq, natV_nat, e_len, lnH_some, e_extract, ex_0, ex_1, e_call0, e_call1, e_call2, e_call3, pc0_eq, pc1_some, pc2_some, pc3_some, fin_some, g_var0, g_vars, g_loc0, g_locs, g_int, g_bool, g_str, g_sl, s_none, s_zero, s_succ, AV.cl, evFa, evNil, evLoad, asEl, evBin, intBin, strBin, evUn, len_nil, len_slc, len_str, clr, List.length_nil, List.length_cons, List.getElem?_cons_zero, List.getElem?_cons_succ, Nat.reduceAdd, Nat.zero_add, Nat.add_zero, Nat.reduceLeDiff, Nat.reduceSub, ↓reduceIte, List.drop_succ_cons, List.drop_zero, List.take_succ_cons, List.take_zero, Bool.false_eq_true, List.nil_append, List.cons_append, Bool.not_true, Bool.not_false, cond_true, cond_false, bne, lv_ret, lv_normal, res1, res2, lv2_some, res_var, res_cell, lvf_v, lvf_slc]
      · cases hc with
        | nil => simp at h0
        | slc ex nn es l hes hm =>
        cases hc' with
        | nil => exact absurd h4n (by simp only [List.length_nil]; omega)
        | slc ex' nn' es' l' hes' hm' =>
        have e1 := hes.length
        have e2 := hes'.length
        let R : Nat → Bool := fun i => match l[i]?, l'[i]? with
          | some t, some t' => same t t'
          | _, _ => true
        have hall : ∀ (i : Nat) (e e' : AV), es[i]? = some e → es'[i]? = some e' → ∃ t t', IsT e t ∧ IsT e' t' ∧ W 15 [e, e'] [] = some (.v (.bool (R i)), []) := by
          intro i e e' he he'
          obtain ⟨t, ht, hT⟩ := hes.get he
          obtain ⟨t', ht', hT'⟩ := hes'.get he'
          refine ⟨t, t', hT, hT', ?_⟩
          have hR : R i = same t t' := by simp only [R, ht, ht']
          rw [hR]
          refine ih t t' e e' ?_ hT hT'
          have := List.sizeOf_lt_of_mem (List.mem_of_getElem? ht)
          have h5 := Tm.mk.sizeOf_spec k s n l
          omega
        have hmain := same_loop (K := l.length + 1) (a := .agg [.v (.int .i64 k), .v (.string s), .v (.int .i64 n), .slc 4 ex nn es]) (b := .agg [.v (.int .i64 k'), .v (.string s'), .v (.int .i64 n'), .slc 4 ex' nn' es']) rfl rfl (by omega) hm R hall l.length 0 (by omega)
        have hsame : (∀ j, 0 ≤ j → j < es.length → R j = true) → sameL l l' = true := by
          intro h
          rw [sameL_iff]
          intro i t t' ht ht'
          have := h i (Nat.zero_le _) (by rw [e1]; exact (List.getElem?_eq_some_iff.1 ht).1)
          simpa only [R, ht, ht'] using this
        have hdiff : ∀ j, j < es.length → R j = false → sameL l l' = false := by
          intro j hj hR
          cases hq : sameL l l' with
          | false => rfl
          | true =>
            rw [sameL_iff] at hq
            have g1 : l[j]? = some (l[j]'(by omega)) := List.getElem?_eq_getElem _
            have g2 : l'[j]? = some (l'[j]'(by omega)) := List.getElem?_eq_getElem _
            have := hq j _ _ g1 g2
            simp only [R, g1, g2] at hR
            rw [this] at hR; cases hR
        have hv0 : ∀ vars : List AV, clr [false, false, true, true, false, false, false, true, true, false, false] vars = [.junk, .junk, .ptr 0 0, .ptr 1 0, .junk, .junk, .junk, .v (.int .i64 l.length), .v (.int .i64 0), .junk, .junk] → clr K15 vars = L15 es.length (0 : Nat) := by
          intro vars h
          rw [K15, h, e1]; rfl
        by_cases hA : ∀ j, 0 ≤ j → j < es.length → R j = true
        · have hl : ∀ (vars : List AV), clr [false, false, true, true, false, false, false, true, true, false, false] vars = [.junk, .junk, .ptr 0 0, .ptr 1 0, .junk, .junk, .junk, .v (.int .i64 l.length), .v (.int .i64 0), .junk, .junk] →
              loopN (exec (callW F) (l.length + 1) c15_9) [false, false, true, true, false, false, false, true, true, false, false] (l.length + 1) vars [.box [.v (.int .i64 k), .v (.string s), .v (.int .i64 n), .slc 4 ex nn es], .box [.v (.int .i64 k'), .v (.string s'), .v (.int .i64 n'), .slc 4 ex' nn' es']] = some (.exit 0, [.junk, .junk, .ptr 0 0, .ptr 1 0, .junk, .junk, .junk, .v (.int .i64 es.length), .v (.int .i64 es.length), .v (.bool false), .junk], [.box [.v (.int .i64 k), .v (.string s), .v (.int .i64 n), .slc 4 ex nn es], .box [.v (.int .i64 k'), .v (.string s'), .v (.int .i64 n'), .slc 4 ex' nn' es']]) := by
            intro vars hv
            rcases hmain vars (hv0 vars hv) with ⟨h, _⟩ | ⟨j, _, hj, hR⟩
            · exact h
            · rw [hA j (Nat.zero_le _) hj] at hR; cases hR
          rw [hsame hA]
          simp only [c15, start, List.replicate, c15_0, c15_1, c15_2, c15_3, c15_10, h1, h2, h3, h4', len1, len2, Bool.false_and, Bool.true_and, run_nil, run_cons, stp_plain, stp_guard, put_some, pass_eq, pick_tt, pick_ff, pick_tf, pick_ft, pick_u, reg_some, thn_normal, thn_exit, thn_ret, cnd_t, cnd_f, blk_normal, blk_ret, blk_exit, x_seq, x_region, x_cond, x_block, x_loop, x_ret, x_exit, x_skip, e_mov, e_pick, pk_t, pk_f, withH_some, e_box, bx_some, e_load, e_store, stH_some, e_nil, e_bin, e_eqv, eqH_f, eqH_t, e_un, e_fa, e_ia, ia_eq, nat_eq, natV_nat, e_len, lnH_some, e_extract, ex_0, ex_1, e_call0, e_call1, e_call2, e_call3, pc0_eq, pc1_some, pc2_some, pc3_some, fin_some, g_var0, g_vars, g_loc0, g_locs, g_int, g_bool, g_str, g_sl, s_none, s_zero, s_succ, AV.cl, evFa, evNil, evLoad, asEl, evBin, intBin, strBin, evUn, len_nil, len_slc, len_str, clr, List.length_nil, List.length_cons, List.getElem?_cons_zero, List.getElem?_cons_succ, Nat.reduceAdd, Nat.zero_add, Nat.add_zero, Nat.reduceLeDiff, Nat.reduceSub, ↓reduceIte, List.drop_succ_cons, List.drop_zero, List.take_succ_cons, List.take_zero, Bool.false_eq_true, List.nil_append, List.cons_append, Bool.not_true, Bool.not_false, cond_true, cond_false, bne, lv_ret, lv_normal, res1, res2, lv2_some, res_var, res_cell, lvf_v, lvf_slc]
          rw [hl _ (by rfl)]
          simp only [run_nil, run_cons, stp_plain, stp_guard, put_some, pass_eq, pick_tt, pick_ff, pick_tf, pick_ft, pick_u, reg_some, thn_normal, thn_exit, thn_ret, cnd_t, cnd_f, blk_normal, blk_ret, blk_exit, x_seq, x_region, x_cond, x_block, x_loop, x_ret, x_exit, x_skip, e_mov, e_pick, pk_t, pk_f, withH_some, e_box, bx_some, e_load, e_store, stH_some, e_nil, e_bin, e_eqv, eqH_f, eqH_t, e_un, e_fa, e_ia, ia_eq, nat_eq, natV_nat, e_len, lnH_some, e_extract, ex_0, ex_1, e_call0, e_call1, e_call2, e_call3, pc0_eq, pc1_some, pc2_some, pc3_some, fin_some, g_var0, g_vars, g_loc0, g_locs, g_int, g_bool, g_str, g_sl, s_none, s_zero, s_succ, AV.cl, evFa, evNil, evLoad, asEl, evBin, intBin, strBin, evUn, len_nil, len_slc, len_str, clr, List.length_nil, List.length_cons, List.getElem?_cons_zero, List.getElem?_cons_succ, Nat.reduceAdd, Nat.zero_add, Nat.add_zero, Nat.reduceLeDiff, Nat.reduceSub, ↓reduceIte, List.drop_succ_cons, List.drop_zero, List.take_succ_cons, List.take_zero, Bool.false_eq_true, List.nil_append, List.cons_append, Bool.not_true, Bool.not_false, cond_true, cond_false, bne, lv_ret, lv_normal, res1, res2, lv2_some, res_var, res_cell, lvf_v, lvf_slc]
        · have : ∃ j, j < es.length ∧ R j = false := by
            refine Classical.byContradiction (fun hn => hA (fun j _ hj => ?_))
            cases hR : R j with
            | true => rfl
            | false => exact absurd ⟨j, hj, hR⟩ hn
          obtain ⟨j0, hj0, hR0⟩ := this
          have hl : ∃ j : Nat, ∀ (vars : List AV), clr [false, false, true, true, false, false, false, true, true, false, false] vars = [.junk, .junk, .ptr 0 0, .ptr 1 0, .junk, .junk, .junk, .v (.int .i64 l.length), .v (.int .i64 0), .junk, .junk] →
              loopN (exec (callW F) (l.length + 1) c15_9) [false, false, true, true, false, false, false, true, true, false, false] (l.length + 1) vars [.box [.v (.int .i64 k), .v (.string s), .v (.int .i64 n), .slc 4 ex nn es], .box [.v (.int .i64 k'), .v (.string s'), .v (.int .i64 n'), .slc 4 ex' nn' es']] = some (.ret, [.junk, .junk, .ptr 0 0, .ptr 1 0, .v (.bool false), .v (.int .i64 j), .junk, .v (.int .i64 es.length), .v (.int .i64 j), .v (.bool true), .v (.bool true)], [.box [.v (.int .i64 k), .v (.string s), .v (.int .i64 n), .slc 4 ex nn es], .box [.v (.int .i64 k'), .v (.string s'), .v (.int .i64 n'), .slc 4 ex' nn' es']]) := by
            have hmain' : ∀ vars, clr K15 vars = L15 es.length (0 : Nat) → ∃ j : Nat, loopN (exec W (l.length + 1) c15_9) K15 (l.length + 1) vars (hp2 (.agg [.v (.int .i64 k), .v (.string s), .v (.int .i64 n), .slc 4 ex nn es]) (.agg [.v (.int .i64 k'), .v (.string s'), .v (.int .i64 n'), .slc 4 ex' nn' es'])) = some (.ret, [.junk, .junk, .ptr 0 0, .ptr 1 0, .v (.bool false), .v (.int .i64 j), .junk, .v (.int .i64 es.length), .v (.int .i64 j), .v (.bool true), .v (.bool true)], (hp2 (.agg [.v (.int .i64 k), .v (.string s), .v (.int .i64 n), .slc 4 ex nn es]) (.agg [.v (.int .i64 k'), .v (.string s'), .v (.int .i64 n'), .slc 4 ex' nn' es']))) := fun vars hv => by
              rcases hmain vars hv with ⟨_, h⟩ | ⟨j, h, _, _⟩
              · rw [h j0 (Nat.zero_le _) hj0] at hR0; cases hR0
              · exact ⟨j, h⟩
            obtain ⟨j, hj⟩ := hmain' (L15 es.length (0 : Nat)) rfl
            refine ⟨j, fun vars hv => ?_⟩
            have hcl := hv0 vars hv
            have hsame2 : ∀ (m : Nat) (v1 v2 : List AV) (h : List AO), clr K15 v1 = clr K15 v2 → loopN (exec W (l.length + 1) c15_9) K15 (m + 1) v1 h = loopN (exec W (l.length + 1) c15_9) K15 (m + 1) v2 h := by
              intro m v1 v2 h e
              simp only [loopN, e]
            rw [show loopN (exec (callW F) (l.length + 1) c15_9) [false, false, true, true, false, false, false, true, true, false, false] (l.length + 1) vars _ = _ from hsame2 l.length vars (L15 es.length (0 : Nat)) _ (by rw [hcl]; rfl)]
            exact hj
          obtain ⟨j, hl⟩ := hl
          rw [hdiff j0 hj0 hR0]
          simp only [c15, start, List.replicate, c15_0, c15_1, c15_2, c15_3, c15_10, h1, h2, h3, h4', len1, len2, Bool.false_and, Bool.true_and, run_nil, run_cons, stp_plain, stp_guard, put_some, pass_eq, pick_tt, pick_ff, pick_tf, pick_ft, pick_u, reg_some, thn_normal, thn_exit, thn_ret, cnd_t, cnd_f, blk_normal, blk_ret, blk_exit, x_seq, x_region, x_cond, x_block, x_loop, x_ret, x_exit, x_skip, e_mov, e_pick, pk_t, pk_f, withH_some, e_box, bx_some, e_load, e_store, stH_some, e_nil, e_bin, e_eqv, eqH_f, eqH_t, e_un, e_fa, e_ia, ia_eq, nat_eq, natV_nat, e_len, lnH_some, e_extract, ex_0, ex_1, e_call0, e_call1, e_call2, e_call3, pc0_eq, pc1_some, pc2_some, pc3_some, fin_some, g_var0, g_vars, g_loc0, g_locs, g_int, g_bool, g_str, g_sl, s_none, s_zero, s_succ, AV.cl, evFa, evNil, evLoad, asEl, evBin, intBin, strBin, evUn, len_nil, len_slc, len_str, clr, List.length_nil, List.length_cons, List.getElem?_cons_zero, List.getElem?_cons_succ, Nat.reduceAdd, Nat.zero_add, Nat.add_zero, Nat.reduceLeDiff, Nat.reduceSub, ↓reduceIte, List.drop_succ_cons, List.drop_zero, List.take_succ_cons, List.take_zero, Bool.false_eq_true, List.nil_append, List.cons_append, Bool.not_true, Bool.not_false, cond_true, cond_false, bne, lv_ret, lv_normal, res1, res2, lv2_some, res_var, res_cell, lvf_v, lvf_slc]
          rw [hl _ (by rfl)]
          simp only [run_nil, run_cons, stp_plain, stp_guard, put_some, pass_eq, pick_tt, pick_ff, pick_tf, pick_ft, pick_u, reg_some, thn_normal, thn_exit, thn_ret, cnd_t, cnd_f, blk_normal, blk_ret, blk_exit, x_seq, x_region, x_cond, x_block, x_loop, x_ret, x_exit, x_skip, e_mov, e_pick, pk_t, pk_f, withH_some, e_box, bx_some, e_load, e_store, stH_some, e_nil, e_bin, e_eqv, eqH_f, eqH_t, e_un, e_fa, e_ia, ia_eq, nat_eq, natV_nat, e_len, lnH_some, e_extract, ex_0, ex_1, e_call0, e_call1, e_call2, e_call3, pc0_eq, pc1_some, pc2_some, pc3_some, fin_some, g_var0, g_vars, g_loc0, g_locs, g_int, g_bool, g_str, g_sl, s_none, s_zero, s_succ, AV.cl, evFa, evNil, evLoad, asEl, evBin, intBin, strBin, evUn, len_nil, len_slc, len_str, clr, List.length_nil, List.length_cons, List.getElem?_cons_zero, List.getElem?_cons_succ, Nat.reduceAdd, Nat.zero_add, Nat.add_zero, Nat.reduceLeDiff, Nat.reduceSub, ↓reduceIte, List.drop_succ_cons, List.drop_zero, List.take_succ_cons, List.take_zero, Bool.false_eq_true, List.nil_append, List.cons_append, Bool.not_true, Bool.not_false, cond_true, cond_false, bne, lv_ret, lv_normal, res1, res2, lv2_some, res_var, res_cell, lvf_v, lvf_slc]
end Go.AE.Ytpgoibncgekflaa
